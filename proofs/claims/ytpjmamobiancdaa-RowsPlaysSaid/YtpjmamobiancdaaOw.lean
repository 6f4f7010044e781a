/- Rows of one's own: slices.Clone at numbers and at locks. Conditions: at most 2^40 items. -/
import Derived.Test.YtpjmamobiancdaaRb
import Derived.Lib.SliceRun
namespace Go.Proofs.Ytpjmamobiancdaa
open Go.RowKit Go.Maps Go.BigFrame
theorem info3 : (Try.prog.info? 3).map (fun i => (i.zero, i.size, i.bytes)) = some (some (.int .i64 0), 1, 8) := by kernel_rfl
theorem info42 : (Try.prog.info? 42).map (fun i => (i.zero, i.size, i.bytes)) = some (some (lkV (⟨#[]⟩, false)), 2, 24) := by kernel_rfl
theorem cellsI_one (z : Int) : ∀ u ∈ cellsI z, u.oneCell' = true := by intro u hu; simp [cellsI] at hu; subst hu; rfl
theorem cellsL_one (x : Lk) : ∀ u ∈ cellsL x, u.oneCell' = true := by intro u hu; simp [cellsL] at hu; rcases hu with rfl | rfl <;> rfl
abbrev IRow (w : World) (base : Nat) (v : Value) (l : List Int) : Prop := RowOf w base 3 1 cellsI v l
abbrev LRow (w : World) (base : Nat) (v : Value) (l : List Lk) : Prop := RowOf w base 42 2 cellsL v l
theorem RowOf.made {α : Type} {enc : α → List Value} (w : World) (e : TypeId) (k base : Nat) (hb : base ≤ w.heap.size) : RowOf (w.alloc (.cells #[] e)) base e k enc (.slice (some ⟨w.heap.size, 0, none⟩) 0 0) [] :=
  RowOf.mono (World.ownsRow_made w #[] 0 (Nat.le_refl _) (Nat.zero_le _) (by simp)) hb
theorem Sees.src' {α : Type} {enc : α → List Value} {w : World} {ao : Option Addr} {c : Nat} {l : List α} (h : Sees w enc (.slice ao l.length c) l) : SrcOf w enc ao l.length c l := by
  obtain ⟨ao', c', h1, h2⟩ := h.src
  simp only [Value.slice.injEq, true_and] at h1
  obtain ⟨rfl, rfl⟩ := h1
  exact h2
theorem Sees.lt {α : Type} {enc : α → List Value} {w : World} {v : Value} {l : List α} (h : Sees w enc v l) {k : Nat} (hk : ∀ x, (enc x).length = k) (h0 : 0 < k) : ∀ ad n c, v = .slice (some ad) n c → l ≠ [] → ad.block < w.heap.size := by
  intro ad n c hv hne
  cases l with
  | nil => exact absurd rfl hne
  | cons a l =>
    obtain ⟨ad', c', hv', hc⟩ := h.at (j := 0) hk (a := a) rfl
    rw [hv] at hv'
    cases hv'
    have := hc 0 ((enc a)[0]'(by rw [hk]; exact h0)) (List.getElem?_eq_getElem _)
    have := World.block_lt_of_cell? w _ this
    simpa [Addr.add] using this
/-- A world in which a block's first eight cells are set. -/
def set8 (w : World) (g : Nat) (v0 v1 v2 v3 v4 v5 v6 v7 : Value) : World :=
  (((((((w.setCell ⟨g, 0, none⟩ v0).setCell ⟨g, 1, none⟩ v1).setCell ⟨g, 2, none⟩ v2).setCell ⟨g, 3, none⟩ v3).setCell ⟨g, 4, none⟩ v4).setCell ⟨g, 5, none⟩ v5).setCell ⟨g, 6, none⟩ v6).setCell ⟨g, 7, none⟩ v7
theorem Chg.set8 {S : Nat → Prop} {a w : World} (h : Chg S a w) {g : Nat} (hg : g < a.heap.size → S g) (v0 v1 v2 v3 v4 v5 v6 v7 : Value) : Chg S a (set8 w g v0 v1 v2 v3 v4 v5 v6 v7) :=
  (((((((h.setCell (p := ⟨g, 0, none⟩) hg v0).setCell (p := ⟨g, 1, none⟩) hg v1).setCell (p := ⟨g, 2, none⟩) hg v2).setCell (p := ⟨g, 3, none⟩) hg v3).setCell (p := ⟨g, 4, none⟩) hg v4).setCell (p := ⟨g, 5, none⟩) hg v5).setCell (p := ⟨g, 6, none⟩) hg v6).setCell (p := ⟨g, 7, none⟩) hg v7
theorem At.set8 {w : World} {g : Nat} {u0 u1 u2 u3 u4 u5 u6 u7 : Value} {T : TypeId} (h : At w g [u0, u1, u2, u3, u4, u5, u6, u7] T) (v0 v1 v2 v3 v4 v5 v6 v7 : Value) : At (set8 w g v0 v1 v2 v3 v4 v5 v6 v7) g [v0, v1, v2, v3, v4, v5, v6, v7] T := by
  have := (((((((h.setCell 0 v0).setCell 1 v1).setCell 2 v2).setCell 3 v3).setCell 4 v4).setCell 5 v5).setCell 6 v6).setCell 7 v7
  simpa [Go.Proofs.Ytpjmamobiancdaa.set8] using this
set_option maxHeartbeats 1000000 in
theorem clone_int (v : Value) (l : List Int) (w : World) (hv : Sees w cellsI v l) (hl : l.length ≤ 1099511627776) :
    Calls Try.prog 37 #[v] w fun e w' => ∃ v', e = .returned v' ∧ IRow w' w.heap.size v' l ∧ Chg NoB w w' := by
  have hq : ∀ (w : World) (a : Option Addr) (n c n' c' : Nat), (binOp .eql 29 (.slice a n c) (.slice none n' c')).run Try.prog w = .ok (.bool a.isNone) w := fun w a n c n' c' => Lib.run_eql_slice_nil w _ _ a n c n' c' Try.underlying29
  obtain ⟨i0, hi, hz0, hz1, hz2⟩ := info_parts info3
  have hv0 := hv
  obtain ⟨ao, c, rfl, hn, hc⟩ := hv
  cases ao with
  | none =>
    obtain ⟨rfl, rfl⟩ := hn rfl
    go_enter Try.func37, Try.ntmps37
    go_wp2
    go_ret
    exact ⟨_, rfl, RowOf.nil _ _, Chg.refl _ w⟩
  | some ad =>
    go_enter Try.func37, Try.ntmps37
    go_wp2_with (at_builtin; refine wpList_app (RowOf.made w 3 1 w.heap.size (Nat.le_refl _)) ((hv0.alloc _).src') cellsI_len cellsI_one (by omega) 29 i0 _ 8 Try.underlying29 hi hz0 hz1 hz2 rfl rfl _ _ rfl rfl rfl (by simp [maxLen]; omega) (by simp; omega) (by simp) ?_; intro v2 w2 hr2 hg2 _)
    go_ret
    exact ⟨_, rfl, hr2, ((Chg.refl _ w).alloc _).grown hg2 (by simp [Value.ownBlock])⟩
set_option maxHeartbeats 1000000 in
theorem clone_lock (v : Value) (l : List Lk) (w : World) (hv : Sees w cellsL v l) (hl : l.length ≤ 1099511627776) :
    Calls Try.prog 38 #[v] w fun e w' => ∃ v', e = .returned v' ∧ LRow w' w.heap.size v' l ∧ Chg NoB w w' := by
  have hq : ∀ (w : World) (a : Option Addr) (n c n' c' : Nat), (binOp .eql 30 (.slice a n c) (.slice none n' c')).run Try.prog w = .ok (.bool a.isNone) w := fun w a n c n' c' => Lib.run_eql_slice_nil w _ _ a n c n' c' Try.underlying30
  obtain ⟨i0, hi, hz0, hz1, hz2⟩ := info_parts info42
  have hv0 := hv
  obtain ⟨ao, c, rfl, hn, hc⟩ := hv
  cases ao with
  | none =>
    obtain ⟨rfl, rfl⟩ := hn rfl
    go_enter Try.func38, Try.ntmps38
    go_wp2
    go_ret
    exact ⟨_, rfl, RowOf.nil _ _, Chg.refl _ w⟩
  | some ad =>
    go_enter Try.func38, Try.ntmps38
    go_wp2_with (at_builtin; refine wpList_app (RowOf.made w 42 2 w.heap.size (Nat.le_refl _)) ((hv0.alloc _).src') cellsL_len cellsL_one (by omega) 30 i0 _ 24 Try.underlying30 hi hz0 hz1 hz2 rfl rfl _ _ rfl rfl rfl (by simp [maxLen]; omega) (by simp; omega) (by simp) ?_; intro v2 w2 hr2 hg2 _)
    go_ret
    exact ⟨_, rfl, hr2, ((Chg.refl _ w).alloc _).grown hg2 (by simp [Value.ownBlock])⟩
end Go.Proofs.Ytpjmamobiancdaa
