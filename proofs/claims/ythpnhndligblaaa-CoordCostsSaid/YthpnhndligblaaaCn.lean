/- Lists of numbers of one's own: slices.Grow of nothing, slices.Concat of two, slices.Sort. Conditions: at most 2^40 numbers. -/
import Derived.Test.YthpnhndligblaaaCd
import Derived.Shelf.Spec.SlicesGrow
import Derived.Sort.OwnSortedInts
namespace Go.Proofs.Ythpnhndligblaaa
open Go.RowKit Go.Maps Go.BigFrame Go.Sort Go.Shelf
def grow_ren : Go.Shelf.Ren := ⟨fun | 4 => 48 | n => n, fun | 22 => 33 | 25 => 3 | n => n, fun | n => n⟩
theorem grow_lays : Go.Proofs.Lays8.n4 Try.prog grow_ren := {
  mixed := by kernel_rfl
  f4 := ⟨Try.f48.name, by decide, Try.func48.trans (congrArg some (by kernel_rfl))⟩
  t0 := Try.underlying0
  a0 := Try.isAgg0
  z0 := Try.sizeOf0
  v0 := Try.zeroValue0
  t3 := Try.underlying3
  a3 := Try.isAgg3
  z3 := Try.sizeOf3
  v3 := Try.zeroValue3
  t4 := Try.underlying4
  a4 := Try.isAgg4
  z4 := Try.sizeOf4
  v4 := Try.zeroValue4
  t9 := Try.underlying9
  a9 := Try.isAgg9
  z9 := Try.sizeOf9
  v9 := Try.zeroValue9
  t20 := Try.underlying20
  a20 := Try.isAgg20
  z20 := Try.sizeOf20
  v20 := Try.zeroValue20
  t22 := Try.underlying33
  a22 := Try.isAgg33
  z22 := Try.sizeOf33
  v22 := Try.zeroValue33 }
theorem grow_any (n : Nat) (w : World) (hn : n ≤ 1099511627776) : Calls Try.prog 48 #[.slice none 0 0, .int .i64 n] w fun e w' => ∃ v, e = .returned v ∧ IRow w' w.heap.size v [] ∧ Chg NoB w w' := by
  obtain ⟨i0, hi, hz0, hz1, hz2⟩ := info_parts info3
  by_cases h0 : n = 0
  · subst h0
    refine (Any8.slices_Grow_room grow_lays none 0 0 0 w (Nat.le_refl _) (by omega) (by omega) (Nat.le_refl _)).mono ?_
    rintro e w' ⟨rfl, rfl⟩
    exact ⟨_, rfl, RowOf.nil _ _, Chg.refl _ _⟩
  · refine (Any8.slices_Grow_grow grow_lays i0 _ hi hz0 (by omega) none 0 0 n [] w (Nat.le_refl _) (by omega) (by rw [hz2]; omega) (by omega) (by simp) (fun _ => rfl) (fun a h => by cases h)).mono ?_
    rintro e w' ⟨rfl, rfl⟩
    have hg := grownCap_ge w (0 + n) 0 3
    have hgm := grownCap_le_maxLen w (0 + n) 0 3 (by unfold maxLen; omega)
    have e3 : grow_ren.t 25 = 3 := rfl
    rw [e3]
    refine ⟨_, rfl, ?_, ((Chg.refl _ w).drew).alloc _⟩
    show IRow _ w.heap.size (.slice (some ⟨w.heap.size, 0, none⟩) 0 (grownCap w (0 + n) 0 3)) []
    change 0 + n ≤ grownCap w (0 + n) 0 3 at hg
    have hat := At.newArr w.drew ((#[] : Array Value) ++ Builtin.zeroCells (Value.int .i64 0).cells (0 + n - 0) ++ Builtin.zeroCells (Value.int .i64 0).cells (grownCap w (0 + n) 0 3 - (0 + n))) 3
    generalize grownCap w (0 + n) 0 3 = G at *
    exact IRow.of_at (l := []) hat (Nat.le_refl _) (Nat.zero_le _) hgm (by simp [size_zeroCells, Value.cells]; omega) (by simp)
/-- The sorted list in its place. -/
theorem sort_any (base : Nat) (v : Value) (l : List Int) (w : World) (hr : IRow w base v l) (hl : l.length ≤ 1099511627776) :
    Calls Try.prog 39 #[v] w fun e w' => e = .returned (.tuple #[]) ∧ IRow w' base v (sortI l) ∧ Chg (fun b => v.ownBlock = some b) w w' := by
  have hsl : (sortI l).length = l.length := by unfold sortI; simp
  obtain ⟨ao, cap, rfl, hcap, hn, had⟩ := hr.shape
  cases ao with
  | none =>
    obtain ⟨rfl, rfl⟩ := hn rfl
    refine (AnyM.slices_Sort_int_none Try.sortA none 0 w).mono ?_
    rintro e w' ⟨rfl, rfl⟩
    exact ⟨rfl, by simpa [sortI] using hr, Chg.refl _ _⟩
  | some ad =>
    obtain ⟨g, rfl, hgb, hgw⟩ := had ad rfl
    obtain ⟨hll, h2⟩ := hr
    rcases h2 with ⟨h2, _⟩ | ⟨g', cap', cur, h2, hb, hg, hn2, hm, hc, ht⟩
    · cases h2
    · simp only [Value.slice.injEq, Option.some.injEq, Addr.mk.injEq, and_true, true_and] at h2
      obtain ⟨rfl, rfl⟩ := h2
      rw [flatI, Nat.mul_one] at ht
      refine (AnyM.slices_Sort_int Try.sortA g 0 cap l w (holds_of_blockI hg ht) hgw (by omega)).mono ?_
      rintro e w' ⟨rfl, n, os, rfl⟩
      refine ⟨rfl, ?_, (Chg.refl _ w).grown (grownBy_sortedI (w := w) (g := g) (n := n) (os := os) _) (fun k hk _ => by cases hk; rfl)⟩
      have := ownsRow_sortedI (ts := sortI l) (os := os) (n := n) hsl hgb hg hn2 hm hc
      unfold IRow RowOf
      rw [flatI, hsl]
      exact this
set_option maxRecDepth 100000 in
set_option maxHeartbeats 1000000 in
theorem concat_any (b : Nat) (v1 v2 : Value) (l1 l2 : List Int) (w : World) (hb : At w b [v1, v2] 33) (h1 : Sees w cellsI v1 l1) (h2 : Sees w cellsI v2 l2) (hl1 : l1.length ≤ 1073741824) (hl2 : l2.length ≤ 1073741824) :
    Calls Try.prog 38 #[.slice (some ⟨b, 0, none⟩) 2 2] w fun e w' => ∃ v, e = .returned v ∧ IRow w' w.heap.size v (l1 ++ l2) ∧ Chg NoB w w' := by
  obtain ⟨i0, hi, hz0, hz1, hz2⟩ := info_parts info3
  have hgr := fun W => grow_any (l1.length + l2.length) W (by omega)
  have c0 := hb.cell 0 rfl
  have c1 := hb.cell 1 rfl
  have hlt := hb.lt
  obtain ⟨a1, k1, rfl⟩ := h1.shape
  obtain ⟨a2, k2, rfl⟩ := h2.shape
  go_enter Try.func38, Try.ntmps38
  go_wp2
  go_loopw [3, 11] (fun s i wr => wr = w ∧ ∃ k : Nat, i = .int .i64 k ∧ (k = 0 ∧ s = .int .i64 0 ∨ k = 1 ∧ s = .int .i64 (l1.length : Nat) ∨ k = 2 ∧ s = .int .i64 ((l1.length + l2.length : Nat) : Int))) (fun _ i _ => 2 - (intOf i).toNat)
  case atStart => exact ⟨rfl, 0, rfl, .inl ⟨rfl, rfl⟩⟩
  case round =>
    obtain ⟨hww, k, rfl, hk⟩ := hrel
    subst wr
    rcases hk with ⟨rfl, rfl⟩ | ⟨rfl, rfl⟩ | ⟨rfl, rfl⟩
    · go_wp2
      exact ⟨⟨by trivial, 1, by go_num, .inr (.inl ⟨rfl, by simp⟩)⟩, by simp [intOf]⟩
    · go_wp2
      all_goals first | (exfalso; omega) | exact ⟨⟨by trivial, 2, by go_num, .inr (.inr ⟨rfl, by simp⟩)⟩, by simp [intOf]⟩
    · go_wp2_with (first | (go_at_call 48; refine (hgr _).mono ?_; clear hgr; rintro e w2 ⟨v, rfl, hr2, hc2⟩; obtain ⟨oa, on, oc, rfl⟩ := hr2.slice) | fail)
      clear c0 c1 hlt
      go_loopw [6, 27] (fun s i wr => Chg NoB w wr ∧ ∃ k : Nat, i = .int .i64 k ∧ (k = 0 ∧ IRow wr w.heap.size s [] ∨ k = 1 ∧ IRow wr w.heap.size s l1 ∨ k = 2 ∧ IRow wr w.heap.size s (l1 ++ l2))) (fun _ i _ => 2 - (intOf i).toNat)
      case atStart => exact ⟨hc2, 0, rfl, .inl ⟨rfl, hr2⟩⟩
      case round =>
        obtain ⟨hcwr, k, rfl, hk⟩ := hrel
        have hbr := hb.chg hcwr (by simp [NoB])
        have d0 := hbr.cell 0 rfl
        have d1 := hbr.cell 1 rfl
        have hlt2 := hbr.lt
        have hszr := hcwr.size
        rcases hk with ⟨rfl, hr⟩ | ⟨rfl, hr⟩ | ⟨rfl, hr⟩
        · obtain ⟨oa', on', oc', rfl⟩ := hr.slice
          go_wp2_with (first | (at_builtin; refine stop ?_) | fail)
          unfold Stop
          refine wpList_app hr ((h1.no hcwr).src') cellsI_len cellsI_one (by omega) 33 i0 _ 8 Try.underlying33 hi hz0 hz1 hz2 rfl rfl _ _ rfl rfl rfl (by simp [maxLen]; omega) (by first | omega | (simp; omega)) hszr ?_
          intro v3 w3 hr3 hg3 _
          have hg3' : Chg NoB w w3 := hcwr.grown hg3 (fun g hg hlt => by have := (hr.ge g hg).1; omega)
          go_wp2
          exact ⟨⟨hg3', 1, by go_num, .inr (.inl ⟨rfl, by simpa using hr3⟩)⟩, by simp [intOf]⟩
        · obtain ⟨oa', on', oc', rfl⟩ := hr.slice
          go_wp2_with (first | (at_builtin; refine stop ?_) | fail)
          unfold Stop
          refine wpList_app hr ((h2.no hcwr).src') cellsI_len cellsI_one (by omega) 33 i0 _ 8 Try.underlying33 hi hz0 hz1 hz2 rfl rfl _ _ rfl rfl rfl (by simp [maxLen]; omega) (by first | omega | (simp; omega)) hszr ?_
          intro v3 w3 hr3 hg3 _
          have hg3' : Chg NoB w w3 := hcwr.grown hg3 (fun g hg hlt => by have := (hr.ge g hg).1; omega)
          go_wp2
          exact ⟨⟨hg3', 2, by go_num, .inr (.inr ⟨rfl, hr3⟩)⟩, by simp [intOf]⟩
        · go_wp2
          go_ret
          exact ⟨_, rfl, hr, hcwr⟩
end Go.Proofs.Ythpnhndligblaaa
