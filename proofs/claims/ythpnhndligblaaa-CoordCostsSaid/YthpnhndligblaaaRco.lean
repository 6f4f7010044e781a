/- PROVED: 'Rows.CoordCostsSaid': for every list of bools and every int the law 'CoordCosts' answers true and leaves its arguments as they were. Conditions: none beyond the row's own. -/
import Derived.Test.YthpnhndligblaaaRows
import Derived.Test.YthpnhndligblaaaWco
import Derived.ProofKit
import Derived.OpenShut
import Derived.ShutString
import Derived.ChangeOld
import Derived.ChangeSlices
import Derived.Below
import Derived.Deep.Grids
namespace Go.Proofs.Ythpnhndligblaaa
open Go.ChangeShapes Go.WideShapes Go.ChangeAt Go.RowKit Go.Maps
theorem own_coordCosts : ownKnob Try.prog.godebug = none := by kernel_rfl
theorem sees_bools {H : Type} {enc : TypeId × Value → H} {w : World} {base : Nat} {held : Bool} {fuel : Nat} {cs : List Value} {x : DataW H × List MemPlace} (h : DataW.trod enc Try.prog w base (fun _ => true) held fuel 22 cs = some x) : ∃ v u, cs = [v] ∧ Sees w cellsB v u := by
  rcases Deep.open_bools Try.underlying22 Try.underlying4 (by kernel_rfl) h with ⟨hcs, _⟩ | ⟨a, len, cap, B, hcs, _, hl, _, _, hc⟩
  · exact ⟨_, [], hcs, Sees.nil w⟩
  · refine ⟨_, (List.range len).map B, hcs, ⟨some a, cap, by simp, (fun h => by cases h), fun ad had j v hj => ?_⟩⟩
    cases had
    have hf : ((List.range len).map B).flatMap cellsB = (List.range len).map (fun i => Value.bool (B i)) := by
      rw [List.flatMap_map]
      induction List.range len with
      | nil => rfl
      | cons x t ih => rw [List.flatMap_cons, ih]; rfl
    rw [hf, List.getElem?_map] at hj
    cases hr : (List.range len)[j]? with
    | none => rw [hr] at hj; cases hj
    | some i =>
      have hji : j < len := by have := (List.getElem?_eq_some_iff.1 hr).1; simpa using this
      rw [List.getElem?_range hji] at hr
      cases hr
      rw [List.getElem?_range hji] at hj
      cases hj
      exact hc j (by omega)
set_option maxRecDepth 100000 in
theorem lifted_coordCosts (os : Os) (started : os.Started) (H : Type) (enc : TypeId × Value → H) :
    ReturnsInHanded {} Try.checked os 3 .any (Rows.coordCostsSpec.pre6 enc Try.prog Try.f3 Rows.coordCostsRow.domain false) (Rows.coordCostsSpec.post enc Try.prog Try.f3 false true false false) := by
  refine returnsInHanded_of_change (C := Try.checked) own_coordCosts started (by kernel_rfl) Try.func3
    (ChangeSpec.witness6 (enc := enc) (C := Try.checked) false ⟨#[], #[.slice none 0 0, .int .i64 0], []⟩ 8 (by kernel_rfl) (by kernel_rfl) (by kernel_rfl) (by kernel_rfl)) ?_
  intro W base args ds gs before hval0 hW hcnd _
  have hval : ∀ (j : Nat) t v, Try.f3.params[j]? = some t → args[j]? = some v → Value.okWide Try.prog W .any base t v := hval0
  have hW' := hW
  obtain ⟨p, q, hA0, hV, rfl, hfz, hnd⟩ := hW
  have hA : DataW.TrodAll enc Try.prog W 0 (fun _ => true) true Try.f3.params.toList args.toList ds p := hA0
  rw [Try.params3] at hA hval
  obtain ⟨v0, vs0, d0, ds0, p0, q0, hargs, rfl, rfl, h0, r0⟩ := trodAll_cons hA
  obtain ⟨v1, vs1, d1, ds1, p1, q1, rfl, rfl, rfl, h1, r1⟩ := trodAll_cons r0
  obtain ⟨rfl, rfl, rfl⟩ := trodAll_nil r1
  obtain rfl : args = #[v0, v1] := by cases args; simp_all
  obtain ⟨rfl, rfl⟩ := trodVars_none hV
  obtain ⟨a0, len0, cap0, rfl⟩ := okWide_slice Try.underlying22 (hval 0 22 v0 rfl rfl)
  obtain ⟨a1, rfl, rfl, rfl, w1⟩ := open_int Try.underlying3 (hval 1 3 v1 rfl rfl) h1
  have k0 := h0
  have lt0 : ∀ x ∈ p0, x.block < W.heap.size := by obtain ⟨m, hm⟩ := k0; exact DataW.trod_lt m _ _ _ hm
  obtain ⟨fuel, hf⟩ := h0
  obtain ⟨v, u, hcs, hv⟩ := sees_bools hf
  simp [Value.cells] at hcs
  subst hcs
  clear hA0 hval0
  refine (walk_costs _ u a1 W hv).mono fun e W' ⟨he, bel⟩ => ?_
  subst he
  exact ⟨_, rfl, _, _, _, [], _, [], hW', trodAll_mk1 (shut_bool Try.underlying4 _), (trodAll_cons_mk (Below.trod laid (by kernel_rfl) (of_decide_eq_true (by kernel_rfl)) k0 bel lt0) (trodAll_cons_mk (shut_int Try.underlying3 w1) trodAll_mk0)), rfl, bel.frame _, fun h => by cases h⟩
theorem over_coordCosts : Rows.coordCostsRow.holds Try.pinned (OpenSpec.ofChange Rows.coordCostsSpec) :=
  OpenClaim.holds_of_wide 3 Try.f3 rfl rfl rfl rfl rfl rfl rfl ⟨rfl, rfl, rfl, rfl, rfl⟩ rfl rfl rfl rfl rfl (by kernel_rfl) Try.func3 (by kernel_rfl)
    (of_decide_eq_true (by kernel_rfl)) (by unfold Func.isWrapper; first | (rw [if_pos (by decide +kernel)]; kernel_rfl) | (rw [if_neg (by decide +kernel)]; exact ⟨rfl, rfl⟩))
    (fun os started H enc _ => lifted_coordCosts os started H enc)
theorem proved_coordCosts : Rows.CoordCostsSaid := over_coordCosts
end Go.Proofs.Ythpnhndligblaaa
