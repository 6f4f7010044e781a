/- PROVED: 'Rows.TimerDelaysSaid': for every int the law 'TimerDelays' answers true and leaves its argument as it was. Conditions: none beyond the row's own. -/
import Derived.Test.YtgpholdeiahldaaRows
import Derived.Test.YtgpholdeiahldaaRd
import Derived.Test.YtgpholdeiahldaaAw
import Derived.ProofKit
import Derived.OpenShut
import Derived.ShutString
import Derived.ChangeOld
import Derived.Below
namespace Go.Proofs.Ytgpholdeiahldaa
open Go.ChangeShapes Go.WideShapes Go.ChangeAt Go.RowKit Go.Maps
theorem i64_of_wf {a : Int} (h : (Lit.int .i64 a).wf = true) : I64 a := bounds_i64 h
theorem walk_timerDelays (a0 : Int) (w0 : (Lit.int .i64 a0).wf = true) (w : World) : Calls Try.prog 3 #[.int .i64 a0] w fun e w' => e = .returned (.bool true) ∧ Below w.heap.size w w' := by
  have hr := i64_of_wf w0
  unfold I64 at hr
  have h1 := delay_any a0 w (by omega)
  have h2 := rdelay_any a0 w (by omega)
  have hp := (delayI_pow a0).bd
  generalize delayI a0 = d at *
  have ha := awake_any w
  go_enter Try.func3, Try.ntmps3
  go_wp2_with (first | (go_at_call 8; refine h1.mono ?_; rintro e w1 ⟨rfl, rfl⟩; go_frame) | (go_at_call 9; refine h2.mono ?_; rintro e w1 ⟨rfl, rfl⟩; go_frame) | (go_at_call 10; refine ha.mono ?_; clear ha; rintro e w1 ⟨rfl, hc⟩; go_frame) | fail)
  go_ret
  exact ⟨rfl, hc.below (Nat.le_refl _) (fun k h => h.elim)⟩

theorem own_timerDelays : ownKnob Try.prog.godebug = none := by kernel_rfl
set_option maxRecDepth 100000 in
theorem lifted_timerDelays (os : Os) (started : os.Started) (H : Type) (enc : TypeId × Value → H) :
    ReturnsInHanded {} Try.checked os 3 .any (Rows.timerDelaysSpec.pre6 enc Try.prog Try.f3 Rows.timerDelaysRow.domain false) (Rows.timerDelaysSpec.post enc Try.prog Try.f3 false true false false) := by
  refine returnsInHanded_of_change (C := Try.checked) own_timerDelays started (by kernel_rfl) Try.func3
    (ChangeSpec.witness6 (enc := enc) (C := Try.checked) false ⟨#[], #[.int .i64 0], []⟩ 8 (by kernel_rfl) (by kernel_rfl) (by kernel_rfl) (by kernel_rfl)) ?_
  intro W base args ds gs before hval0 hW hcnd _
  have hval : ∀ (j : Nat) t v, Try.f3.params[j]? = some t → args[j]? = some v → Value.okWide Try.prog W .any base t v := hval0
  have hW' := hW
  obtain ⟨p, q, hA0, hV, rfl, hfz, hnd⟩ := hW
  have hA : DataW.TrodAll enc Try.prog W 0 (fun _ => true) true Try.f3.params.toList args.toList ds p := hA0
  rw [Try.params3] at hA hval
  obtain ⟨v0, vs0, d0, ds0, p0, q0, hargs, rfl, rfl, h0, r0⟩ := trodAll_cons hA
  obtain ⟨rfl, rfl, rfl⟩ := trodAll_nil r0
  obtain rfl : args = #[v0] := by cases args; simp_all
  obtain ⟨rfl, rfl⟩ := trodVars_none hV
  obtain ⟨a0, rfl, rfl, rfl, w0⟩ := open_int Try.underlying3 (hval 0 3 v0 rfl rfl) h0
  clear hA0 hval0
  refine (walk_timerDelays a0 w0 W).mono fun e W' ⟨he, bel⟩ => ?_
  subst he
  exact ⟨_, rfl, _, _, _, [], _, [], hW', trodAll_mk1 (shut_bool Try.underlying4 _), (trodAll_cons_mk (shut_int Try.underlying3 w0) trodAll_mk0), rfl, bel.frame _, fun h => by cases h⟩
theorem over_timerDelays : Rows.timerDelaysRow.holds Try.pinned (OpenSpec.ofChange Rows.timerDelaysSpec) :=
  OpenClaim.holds_of_wide 3 Try.f3 rfl rfl rfl rfl rfl rfl rfl ⟨rfl, rfl, rfl, rfl, rfl⟩ rfl rfl rfl rfl rfl (by kernel_rfl) Try.func3 (by kernel_rfl)
    (of_decide_eq_true (by kernel_rfl)) (by unfold Func.isWrapper; first | (rw [if_pos (by decide +kernel)]; kernel_rfl) | (rw [if_neg (by decide +kernel)]; exact ⟨rfl, rfl⟩))
    (fun os started H enc _ => lifted_timerDelays os started H enc)
theorem proved_timerDelays : Rows.TimerDelaysSaid := over_timerDelays

end Go.Proofs.Ytgpholdeiahldaa
