/- A list of numbers of one's own: slices.Clone. Conditions: at most 2^40 numbers. -/
import Derived.Test.YthpnhndligblaaaSl
import Derived.Lib.SliceRun
namespace Go.Proofs.Ythpnhndligblaaa
open Go.RowKit Go.Maps Go.BigFrame
theorem info3 : (Try.prog.info? 3).map (fun i => (i.zero, i.size, i.bytes)) = some (some (.int .i64 0), 1, 8) := by kernel_rfl
theorem cellsI_one (z : Int) : ∀ u ∈ cellsI z, u.oneCell' = true := by intro u hu; simp [cellsI] at hu; subst hu; rfl
theorem RowOf.made {α : Type} {enc : α → List Value} (w : World) (e : TypeId) (k base : Nat) (hb : base ≤ w.heap.size) : RowOf (w.alloc (.cells #[] e)) base e k enc (.slice (some ⟨w.heap.size, 0, none⟩) 0 0) [] :=
  RowOf.mono (World.ownsRow_made w #[] 0 (Nat.le_refl _) (Nat.zero_le _) (by simp)) hb
theorem Sees.src' {α : Type} {enc : α → List Value} {w : World} {ao : Option Addr} {c : Nat} {l : List α} (h : Sees w enc (.slice ao l.length c) l) : SrcOf w enc ao l.length c l := by
  obtain ⟨ao', c', h1, h2⟩ := h.src
  simp only [Value.slice.injEq, true_and] at h1
  obtain ⟨rfl, rfl⟩ := h1
  exact h2
set_option maxHeartbeats 1000000 in
theorem clone_int (v : Value) (l : List Int) (w : World) (hv : Sees w cellsI v l) (hl : l.length ≤ 1099511627776) :
    Calls Try.prog 27 #[v] w fun e w' => ∃ v', e = .returned v' ∧ IRow w' w.heap.size v' l ∧ Chg NoB w w' := by
  have hq : ∀ (w : World) (a : Option Addr) (n c n' c' : Nat), (binOp .eql 33 (.slice a n c) (.slice none n' c')).run Try.prog w = .ok (.bool a.isNone) w := fun w a n c n' c' => Lib.run_eql_slice_nil w _ _ a n c n' c' Try.underlying33
  obtain ⟨i0, hi, hz0, hz1, hz2⟩ := info_parts info3
  have hv0 := hv
  obtain ⟨ao, c, rfl, hn, hc⟩ := hv
  cases ao with
  | none =>
    obtain ⟨rfl, rfl⟩ := hn rfl
    go_enter Try.func27, Try.ntmps27
    go_wp2
    go_ret
    exact ⟨_, rfl, RowOf.nil _ _, Chg.refl _ w⟩
  | some ad =>
    go_enter Try.func27, Try.ntmps27
    go_wp2_with (at_builtin; refine wpList_app (RowOf.made w 3 1 w.heap.size (Nat.le_refl _)) ((hv0.alloc _).src') cellsI_len cellsI_one (by omega) 33 i0 _ 8 Try.underlying33 hi hz0 hz1 hz2 rfl rfl _ _ rfl rfl rfl (by simp [maxLen]; omega) (by simp; omega) (by simp) ?_; intro v2 w2 hr2 hg2 _)
    go_ret
    exact ⟨_, rfl, hr2, ((Chg.refl _ w).alloc _).grown hg2 (by simp [Value.ownBlock])⟩
end Go.Proofs.Ythpnhndligblaaa
