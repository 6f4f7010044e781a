/- PROVED: 'Rows.TimerNilSaid': for every three ints the law 'TimerNil' answers true and leaves its arguments as they were. Conditions: none beyond the row's own. -/
import Derived.Test.YtgpholdeiahldaaRows
import Derived.Test.YtgpholdeiahldaaAll
import Derived.Test.YtgpholdeiahldaaAw
import Derived.ProofKit
import Derived.OpenShut
import Derived.ShutString
import Derived.ChangeOld
import Derived.Below
namespace Go.Proofs.Ytgpholdeiahldaa
open Go.ChangeShapes Go.WideShapes Go.ChangeAt Go.RowKit Go.Maps
set_option linter.unusedVariables false in
theorem walk_timerNil (a0 a1 a2 : Int) (w0 : (Lit.int .i64 a0).wf = true) (w1 : (Lit.int .i64 a1).wf = true) (w2 : (Lit.int .i64 a2).wf = true) (w : World) :
    Calls Try.prog 7 #[.int .i64 a0, .int .i64 a1, .int .i64 a2] w fun e w' => e = .returned (.bool true) ∧ Below w.heap.size w w' := by
  have h1 := get_nil a0 a1 w
  have h2 := fun W => start_nil a0 a1 a2 W
  have h3 := fun W => stop_nil a0 a1 W
  have h4 := fun W => due_nil a2 W
  have h5 := fun W => all_nil W
  have h6 := fun W => awake_any W
  unfold encA at h1
  go_enter Try.func7, Try.ntmps7
  go_wp2_with (first | (go_at_call 18; refine h1.mono ?_; clear h1; rintro e W1 ⟨rfl, hc1⟩; go_frame)
                     | (go_at_call 12; refine (h2 _).mono ?_; clear h2; rintro e W2 ⟨rfl, rfl⟩; go_frame)
                     | (go_at_call 13; refine (h3 _).mono ?_; clear h3; rintro e W3 ⟨rfl, hc3⟩; go_frame)
                     | (go_at_call 14; refine (h4 _).mono ?_; clear h4; rintro e W4 ⟨rfl, rfl⟩; go_frame)
                     | (go_at_call 15; refine (h5 _).mono ?_; clear h5; rintro e W5 ⟨rfl, rfl⟩; go_frame)
                     | (go_at_call 10; refine (h6 _).mono ?_; clear h6; rintro e W6 ⟨rfl, hc6⟩; go_frame)
                     | fail)
  go_ret
  exact ⟨rfl, (((hc1.alloc _).trans hc3 (by simp [NoB])).trans hc6 (by simp [NoB])).below (Nat.le_refl _) (fun k h => h.elim)⟩

theorem own_timerNil : ownKnob Try.prog.godebug = none := by kernel_rfl
set_option maxRecDepth 100000 in
theorem lifted_timerNil (os : Os) (started : os.Started) (H : Type) (enc : TypeId × Value → H) :
    ReturnsInHanded {} Try.checked os 7 .any (Rows.timerNilSpec.pre6 enc Try.prog Try.f7 Rows.timerNilRow.domain false) (Rows.timerNilSpec.post enc Try.prog Try.f7 false true false false) := by
  refine returnsInHanded_of_change (C := Try.checked) own_timerNil started (by kernel_rfl) Try.func7
    (ChangeSpec.witness6 (enc := enc) (C := Try.checked) false ⟨#[], #[.int .i64 0, .int .i64 0, .int .i64 0], []⟩ 8 (by kernel_rfl) (by kernel_rfl) (by kernel_rfl) (by kernel_rfl)) ?_
  intro W base args ds gs before hval0 hW hcnd _
  have hval : ∀ (j : Nat) t v, Try.f7.params[j]? = some t → args[j]? = some v → Value.okWide Try.prog W .any base t v := hval0
  have hW' := hW
  obtain ⟨p, q, hA0, hV, rfl, hfz, hnd⟩ := hW
  have hA : DataW.TrodAll enc Try.prog W 0 (fun _ => true) true Try.f7.params.toList args.toList ds p := hA0
  rw [Try.params7] at hA hval
  obtain ⟨v0, vs0, d0, ds0, p0, q0, hargs, rfl, rfl, h0, r0⟩ := trodAll_cons hA
  obtain ⟨v1, vs1, d1, ds1, p1, q1, rfl, rfl, rfl, h1, r1⟩ := trodAll_cons r0
  obtain ⟨v2, vs2, d2, ds2, p2, q2, rfl, rfl, rfl, h2, r2⟩ := trodAll_cons r1
  obtain ⟨rfl, rfl, rfl⟩ := trodAll_nil r2
  obtain rfl : args = #[v0, v1, v2] := by cases args; simp_all
  obtain ⟨rfl, rfl⟩ := trodVars_none hV
  obtain ⟨a0, rfl, rfl, rfl, w0⟩ := open_int Try.underlying3 (hval 0 3 v0 rfl rfl) h0
  obtain ⟨a1, rfl, rfl, rfl, w1⟩ := open_int Try.underlying3 (hval 1 3 v1 rfl rfl) h1
  obtain ⟨a2, rfl, rfl, rfl, w2⟩ := open_int Try.underlying3 (hval 2 3 v2 rfl rfl) h2
  clear hA0 hval0
  refine (walk_timerNil a0 a1 a2 w0 w1 w2 W).mono fun e W' ⟨he, bel⟩ => ?_
  subst he
  exact ⟨_, rfl, _, _, _, [], _, [], hW', trodAll_mk1 (shut_bool Try.underlying4 _), (trodAll_cons_mk (shut_int Try.underlying3 w0) (trodAll_cons_mk (shut_int Try.underlying3 w1) (trodAll_cons_mk (shut_int Try.underlying3 w2) trodAll_mk0))), rfl, bel.frame _, fun h => by cases h⟩
theorem over_timerNil : Rows.timerNilRow.holds Try.pinned (OpenSpec.ofChange Rows.timerNilSpec) :=
  OpenClaim.holds_of_wide 7 Try.f7 rfl rfl rfl rfl rfl rfl rfl ⟨rfl, rfl, rfl, rfl, rfl⟩ rfl rfl rfl rfl rfl (by kernel_rfl) Try.func7 (by kernel_rfl)
    (of_decide_eq_true (by kernel_rfl)) (by unfold Func.isWrapper; first | (rw [if_pos (by decide +kernel)]; kernel_rfl) | (rw [if_neg (by decide +kernel)]; exact ⟨rfl, rfl⟩))
    (fun os started H enc _ => lifted_timerNil os started H enc)
theorem proved_timerNil : Rows.TimerNilSaid := over_timerNil

end Go.Proofs.Ytgpholdeiahldaa
