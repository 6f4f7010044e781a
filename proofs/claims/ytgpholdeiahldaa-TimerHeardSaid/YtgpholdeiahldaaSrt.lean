/- The timer's sorting: what 'sorted' does to a row of alarms. Conditions: rows of fewer than 2^40 alarms. -/
import Derived.Test.YtgpholdeiahldaaRf
import Derived.Test.YtgpholdeiahldaaShelf
import Derived.Deep.RegionWith
import Derived.Deep.Cut
import Derived.Deep.CutRange
namespace Go.Proofs.Ytgpholdeiahldaa
open Go.RowKit Go.Maps Go.Sort
/-- New blocks and draws alone. -/
structure New (w w' : World) : Prop where
  chg : Chg NoB w w'
  drawn : w.drawn ≤ w'.drawn
theorem New.refl (w : World) : New w w := ⟨Chg.refl _ _, Nat.le_refl _⟩
theorem New.trans {a b c : World} (h : New a b) (k : New b c) : New a c := ⟨h.chg.trans k.chg (by simp [NoB]), Nat.le_trans h.drawn k.drawn⟩
theorem New.alloc {a w : World} (h : New a w) (o : Obj) : New a (w.alloc o) := ⟨h.chg.alloc o, h.drawn⟩
theorem New.drew {a w : World} (h : New a w) : New a w.drew := ⟨h.chg.drew, Nat.le_trans h.drawn (Nat.le_succ _)⟩
theorem New.drewN {a w : World} (h : New a w) (n : Nat) : New a (w.drewN n) := ⟨h.chg.drewN n, Nat.le_trans h.drawn (Nat.le_add_right _ _)⟩
theorem New.setCell {a w : World} (h : New a w) {p : Addr} (hp : a.heap.size ≤ p.block) (u : Value) : New a (w.setCell p u) := ⟨h.chg.setCell (fun h' => by omega) u, h.drawn⟩
theorem New.grow {w w' : World} (h : New w w') : ∃ q os, w' = grow (w.drewN q) os := by
  refine ⟨w'.drawn - w.drawn, w'.heap.extract w.heap.size w'.heap.size, ?_⟩
  obtain ⟨⟨h1, h2, h3, h4, h5⟩, h6⟩ := h
  cases w'
  cases w
  simp only at h1 h2 h3 h4 h5 h6
  subst h1 h2 h3
  unfold Go.Sort.grow World.drewN
  simp only [World.mk.injEq, true_and, and_true]
  refine ⟨?_, by omega⟩
  apply Array.ext_getElem?
  intro i
  rw [Array.getElem?_append]
  split
  · rename_i hi
    exact h5 i hi (by simp [NoB])
  · rename_i hi
    rw [Array.getElem?_extract]
    split
    · congr 1; omega
    · rename_i hlt
      rw [Array.getElem?_eq_none (by omega)]
/-- Three numbers, and their lexical order. -/
structure T3 where
  a : Int
  b : Int
  c : Int
def enc3 (x : T3) : Value := .agg #[.int .i64 x.a, .int .i64 x.b, .int .i64 x.c]
def cmp3 (x y : T3) : Int := if x.a < y.a then -1 else if y.a < x.a then 1 else if x.b < y.b then -1 else if y.b < x.b then 1 else if x.c < y.c then -1 else if y.c < x.c then 1 else 0
def dueO (a : Alarm) : T3 := ⟨a.at_, a.tx, a.role⟩
def allO (a : Alarm) : T3 := ⟨a.tx, a.role, 0⟩
theorem due1_exact (a1 a2 a3 a4 : Int) (w : World) : Calls Try.prog 23 #[.agg #[.int .i64 a1, .int .i64 a2, .int .i64 a3, .int .i64 a4]] w fun e w' => e = .returned (.agg #[.int .i64 a3, .int .i64 a1, .int .i64 a2]) ∧
    (w.alloc (.cells #[.int .i64 a1, .int .i64 a2, .int .i64 a3, .int .i64 a4] 34)).alloc (.cells #[.int .i64 a3, .int .i64 a1, .int .i64 a2] 56) = w' := by
  go_enter Try.func23, Try.ntmps23
  go_wp2
  exact bodyPost_ret (v := .agg #[.int .i64 a3, .int .i64 a1, .int .i64 a2]) (by simp [results, Try.results23, go_sem]) rfl ⟨rfl, rfl⟩
theorem all1_exact (a1 a2 a3 a4 : Int) (w : World) : Calls Try.prog 27 #[.agg #[.int .i64 a1, .int .i64 a2, .int .i64 a3, .int .i64 a4]] w fun e w' => e = .returned (.agg #[.int .i64 a1, .int .i64 a2, .int .i64 0]) ∧
    (w.alloc (.cells #[.int .i64 a1, .int .i64 a2, .int .i64 a3, .int .i64 a4] 34)).alloc (.cells #[.int .i64 a1, .int .i64 a2, .int .i64 0] 56) = w' := by
  go_enter Try.func27, Try.ntmps27
  go_wp2
  exact bodyPost_ret (v := .agg #[.int .i64 a1, .int .i64 a2, .int .i64 0]) (by simp [results, Try.results27, go_sem]) rfl ⟨rfl, rfl⟩
/-- slices.Compare of two arrays of three. -/
theorem compare_any (b c : Nat) (x y : T3) (w : World) (hb : At w b [.int .i64 x.a, .int .i64 x.b, .int .i64 x.c] 56) (hc : At w c [.int .i64 y.a, .int .i64 y.b, .int .i64 y.c] 56) :
    Calls Try.prog 32 #[.slice (some ⟨b, 0, none⟩) 3 3, .slice (some ⟨c, 0, none⟩) 3 3] w fun e w' => e = .returned (.int .i64 (cmp3 x y)) ∧ w' = w := by
  have hlt : ∀ x y : Int, x < y → Calls Try.prog 38 #[.int .i64 x, .int .i64 y] w fun e w' => e = .returned (.int .i64 (-1)) ∧ w' = w := fun x y h => by
    have := Try.cmp_Compare_int x y w
    rwa [show Lib.compareInt x y = -1 from by unfold Lib.compareInt; rw [if_pos h]] at this
  have hgt : ∀ x y : Int, y < x → Calls Try.prog 38 #[.int .i64 x, .int .i64 y] w fun e w' => e = .returned (.int .i64 1) ∧ w' = w := fun x y h => by
    have := Try.cmp_Compare_int x y w
    rwa [show Lib.compareInt x y = 1 from by unfold Lib.compareInt; rw [if_neg (by omega), if_pos h]] at this
  have heq : ∀ x : Int, Calls Try.prog 38 #[.int .i64 x, .int .i64 x] w fun e w' => e = .returned (.int .i64 0) ∧ w' = w := fun x => by
    have := Try.cmp_Compare_int x x w
    rwa [show Lib.compareInt x x = 0 from by unfold Lib.compareInt; rw [if_neg (by omega), if_neg (by omega)]] at this
  obtain ⟨x1, x2, x3⟩ := x
  obtain ⟨y1, y2, y3⟩ := y
  have p1 := hb.cell 0 rfl
  have p2 := hb.cell 1 rfl
  have p3 := hb.cell 2 rfl
  have q1 := hc.cell 0 rfl
  have q2 := hc.cell 1 rfl
  have q3 := hc.cell 2 rfl
  simp only at p1 p2 p3 q1 q2 q3
  clear hb hc
  rcases Int.lt_trichotomy x1 y1 with h | rfl | h
  · have h1 := hlt _ _ h
    have HR : Hid (cmp3 ⟨x1, x2, x3⟩ ⟨y1, y2, y3⟩ = -1) := by show cmp3 _ _ = _; simp [cmp3, h]
    clear hlt hgt heq h
    go_enter Try.func32, Try.ntmps32
    go_wp2_with fail
    refine wp_loop_rounds 4 ?_
    rw [rounds_succ]
    go_wp2_with (go_at_call 38; refine h1.mono ?_; rintro e w' ⟨rfl, rfl⟩)
    go_ret
    exact ⟨by rw [HR.out]; rfl, rfl⟩
  · rcases Int.lt_trichotomy x2 y2 with h | rfl | h
    · have h1 := heq x1
      have h2 := hlt _ _ h
      have HR : Hid (cmp3 ⟨x1, x2, x3⟩ ⟨x1, y2, y3⟩ = -1) := by show cmp3 _ _ = _; simp [cmp3, h]
      clear hlt hgt heq h
      go_enter Try.func32, Try.ntmps32
      go_wp2_with fail
      refine wp_loop_rounds 4 ?_
      rw [rounds_succ]
      go_wp2_with (go_at_call 38; refine h1.mono ?_; clear h1; rintro e w' ⟨rfl, rfl⟩)
      rw [rounds_succ]
      go_wp2_with (go_at_call 38; refine h2.mono ?_; clear h2; rintro e w' ⟨rfl, rfl⟩)
      go_ret
      exact ⟨by rw [HR.out]; rfl, rfl⟩
    · rcases Int.lt_trichotomy x3 y3 with h | rfl | h
      · have h1 := heq x1
        have h2 := heq x2
        have h3 := hlt _ _ h
        have HR : Hid (cmp3 ⟨x1, x2, x3⟩ ⟨x1, x2, y3⟩ = -1) := by show cmp3 _ _ = _; simp [cmp3, h]
        clear hlt hgt heq h
        go_enter Try.func32, Try.ntmps32
        go_wp2_with fail
        refine wp_loop_rounds 4 ?_
        rw [rounds_succ]
        go_wp2_with (go_at_call 38; refine h1.mono ?_; clear h1; rintro e w' ⟨rfl, rfl⟩)
        rw [rounds_succ]
        go_wp2_with (go_at_call 38; refine h2.mono ?_; clear h2; rintro e w' ⟨rfl, rfl⟩)
        rw [rounds_succ]
        go_wp2_with (go_at_call 38; refine h3.mono ?_; clear h3; rintro e w' ⟨rfl, rfl⟩)
        go_ret
        exact ⟨by rw [HR.out]; rfl, rfl⟩
      · have h1 := heq x1
        have h2 := heq x2
        have h3 := heq x3
        have HR : Hid (cmp3 ⟨x1, x2, x3⟩ ⟨x1, x2, x3⟩ = 0) := by show cmp3 _ _ = _; simp [cmp3]
        clear hlt hgt heq
        go_enter Try.func32, Try.ntmps32
        go_wp2_with fail
        refine wp_loop_rounds 4 ?_
        rw [rounds_succ]
        go_wp2_with (go_at_call 38; refine h1.mono ?_; clear h1; rintro e w' ⟨rfl, rfl⟩)
        rw [rounds_succ]
        go_wp2_with (go_at_call 38; refine h2.mono ?_; clear h2; rintro e w' ⟨rfl, rfl⟩)
        rw [rounds_succ]
        go_wp2_with (go_at_call 38; refine h3.mono ?_; clear h3; rintro e w' ⟨rfl, rfl⟩)
        rw [rounds_succ]
        go_wp2_with fail
        go_ret
        exact ⟨by rw [HR.out]; rfl, rfl⟩
      · have h1 := heq x1
        have h2 := heq x2
        have h3 := hgt _ _ h
        have HR : Hid (cmp3 ⟨x1, x2, x3⟩ ⟨x1, x2, y3⟩ = 1) := by show cmp3 _ _ = _; simp [cmp3, h]; omega
        clear hlt hgt heq h
        go_enter Try.func32, Try.ntmps32
        go_wp2_with fail
        refine wp_loop_rounds 4 ?_
        rw [rounds_succ]
        go_wp2_with (go_at_call 38; refine h1.mono ?_; clear h1; rintro e w' ⟨rfl, rfl⟩)
        rw [rounds_succ]
        go_wp2_with (go_at_call 38; refine h2.mono ?_; clear h2; rintro e w' ⟨rfl, rfl⟩)
        rw [rounds_succ]
        go_wp2_with (go_at_call 38; refine h3.mono ?_; clear h3; rintro e w' ⟨rfl, rfl⟩)
        go_ret
        exact ⟨by rw [HR.out]; rfl, rfl⟩
    · have h1 := heq x1
      have h2 := hgt _ _ h
      have HR : Hid (cmp3 ⟨x1, x2, x3⟩ ⟨x1, y2, y3⟩ = 1) := by show cmp3 _ _ = _; simp [cmp3, h]; omega
      clear hlt hgt heq h
      go_enter Try.func32, Try.ntmps32
      go_wp2_with fail
      refine wp_loop_rounds 4 ?_
      rw [rounds_succ]
      go_wp2_with (go_at_call 38; refine h1.mono ?_; clear h1; rintro e w' ⟨rfl, rfl⟩)
      rw [rounds_succ]
      go_wp2_with (go_at_call 38; refine h2.mono ?_; clear h2; rintro e w' ⟨rfl, rfl⟩)
      go_ret
      exact ⟨by rw [HR.out]; rfl, rfl⟩
  · have h1 := hgt _ _ h
    have HR : Hid (cmp3 ⟨x1, x2, x3⟩ ⟨y1, y2, y3⟩ = 1) := by show cmp3 _ _ = _; simp [cmp3, h]; omega
    clear hlt hgt heq h
    go_enter Try.func32, Try.ntmps32
    go_wp2_with fail
    refine wp_loop_rounds 4 ?_
    rw [rounds_succ]
    go_wp2_with (go_at_call 38; refine h1.mono ?_; rintro e w' ⟨rfl, rfl⟩)
    go_ret
    exact ⟨by rw [HR.out]; rfl, rfl⟩
end Go.Proofs.Ytgpholdeiahldaa
