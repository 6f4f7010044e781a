/- The reference's timer: what its functions do to memory, said of a list of alarms. Conditions: lists of at most 2^40 alarms. -/
import Derived.Test.YtgpholdeiahldaaTm
namespace Go.Proofs.Ytgpholdeiahldaa
open Go.RowKit Go.Maps
def lessA (a b : Alarm) : Bool := decide (a.tx < b.tx) || (decide (a.tx = b.tx) && decide (a.role < b.role))
set_option maxHeartbeats 400000 in
theorem less_any (a b : Alarm) (w : World) : Calls Try.prog 35 #[encA a, encA b] w fun e w' => e = .returned (.bool (lessA a b)) ∧ Chg NoB w w' := by
  obtain ⟨a1, a2, a3, a4⟩ := a
  obtain ⟨b1, b2, b3, b4⟩ := b
  unfold encA
  go_enter Try.func35, Try.ntmps35
  go_wp2
  all_goals (go_ret; refine ⟨ret_b ?_, ((Chg.refl _ w).alloc _).alloc _⟩; unfold lessA; rw [Bool.eq_iff_iff]; simp; omega)
def cellsA (a : Alarm) : List Value := [.int .i64 a.tx, .int .i64 a.role, .int .i64 a.at_, .int .i64 a.tries]
theorem cellsA_len (a : Alarm) : (cellsA a).length = 4 := rfl
theorem cellsA_one (a : Alarm) : ∀ u ∈ cellsA a, u.oneCell' = true := by intro u hu; simp [cellsA] at hu; rcases hu with rfl | rfl | rfl | rfl <;> rfl
/-- A slice of alarms that owns its row, from block base on, and holds l. -/
abbrev Row (w : World) (base : Nat) (v : Value) (l : List Alarm) : Prop := RowOf w base 34 4 cellsA v l
/-- The reference's table. -/
def RAt (w : World) (bR : Nat) (v : Value) (l : List Alarm) : Prop := At w bR [v] 40 ∧ Row w 0 v l
/-- The cells of an element. -/
theorem row_cells {w : World} {base g n cap : Nat} {l : List Alarm} (h : Row w base (.slice (some ⟨g, 0, none⟩) n cap) l) {j : Nat} {a : Alarm} (ha : l[j]? = some a) :
    w.cell? ⟨g, j * 4, none⟩ = some (.int .i64 a.tx) ∧ w.cell? ⟨g, j * 4 + 1, none⟩ = some (.int .i64 a.role) ∧ w.cell? ⟨g, j * 4 + 2, none⟩ = some (.int .i64 a.at_) ∧ w.cell? ⟨g, j * 4 + 3, none⟩ = some (.int .i64 a.tries) :=
  ⟨h.cell0 cellsA_len ha rfl, h.cell cellsA_len ha (i := 1) rfl, h.cell cellsA_len ha (i := 2) rfl, h.cell cellsA_len ha (i := 3) rfl⟩
/-- Where there is an element there is an address. -/
theorem row_some {w : World} {base : Nat} {v : Value} {l : List Alarm} (h : Row w base v l) {j : Nat} (hj : j < l.length) : ∃ g cap, v = .slice (some ⟨g, 0, none⟩) l.length cap ∧ l.length ≤ cap ∧ base ≤ g ∧ g < w.heap.size := by
  obtain ⟨ao, cap, rfl, hc, hn, hs⟩ := h.shape
  cases ao with
  | none => rw [(hn rfl).1] at hj; simp at hj
  | some ad => obtain ⟨g, rfl, h1, h2⟩ := hs ad rfl; exact ⟨g, cap, rfl, hc, h1, h2⟩
/-- Where one stands: how many come first. -/
def findI : List Alarm → Alarm → Nat
  | [], _ => 0
  | a :: l, x => if lessA a x = true then findI l x + 1 else 0
def isAt (l : List Alarm) (i : Nat) (tx role : Int) : Bool := match l[i]? with | some a => decide (a.tx = tx) && decide (a.role = role) | none => false
theorem findI_le (l : List Alarm) (x : Alarm) : findI l x ≤ l.length := by
  induction l with
  | nil => simp [findI]
  | cons a l ih => unfold findI; split <;> simp <;> omega
theorem findI_yes {l : List Alarm} {x a : Alarm} {k : Nat} (hk : k ≤ findI l x) (ha : l[k]? = some a) (h : lessA a x = true) : k + 1 ≤ findI l x := by
  induction l generalizing k with
  | nil => simp at ha
  | cons b l ih =>
    cases k with
    | zero => simp at ha; subst ha; unfold findI; rw [if_pos h]; omega
    | succ k =>
      unfold findI at hk ⊢
      split
      · rename_i hb
        rw [if_pos hb] at hk
        have := ih (k := k) (by omega) (by simpa using ha)
        omega
      · rename_i hb
        rw [if_neg hb] at hk
        omega
theorem findI_no {l : List Alarm} {x a : Alarm} {k : Nat} (hk : k ≤ findI l x) (ha : l[k]? = some a) (h : lessA a x = false) : findI l x = k := by
  induction l generalizing k with
  | nil => simp at ha
  | cons b l ih =>
    cases k with
    | zero => simp at ha; subst ha; unfold findI; rw [if_neg (by simp [h])]
    | succ k =>
      unfold findI at hk ⊢
      split
      · rename_i hb
        rw [if_pos hb] at hk
        rw [ih (k := k) (by omega) (by simpa using ha)]
      · rename_i hb
        rw [if_neg hb] at hk
        omega
set_option maxHeartbeats 2000000 in
set_option maxRecDepth 100000 in
theorem find_any (bR : Nat) (v : Value) (l : List Alarm) (tx role : Int) (w : World) (hr : RAt w bR v l) (hl : l.length ≤ 1099511627776) :
    Calls Try.prog 28 #[.pointer (some ⟨bR, 0, none⟩), .int .i64 tx, .int .i64 role] w fun e w' =>
      e = .returned (.tuple #[.int .i64 (findI l ⟨tx, role, 0, 0⟩), .bool (isAt l (findI l ⟨tx, role, 0, 0⟩) tx role)]) ∧ Chg NoB w w' := by
  obtain ⟨ha, hrow⟩ := hr
  have hlt := ha.lt
  go_enter Try.func28, Try.ntmps28
  go_wp2
  go_loopw [9] (fun i wr => ∃ k : Nat, i = .int .i64 k ∧ k ≤ findI l ⟨tx, role, 0, 0⟩ ∧ Chg NoB w wr ∧ At wr w.heap.size [.int .i64 tx, .int .i64 role, .int .i64 0, .int .i64 0] 34) (fun i _ => l.length + 1 - (intOf i).toNat)
  case atStart => exact ⟨0, rfl, Nat.zero_le _, (Chg.refl _ w).alloc _, At.new w [_, _, _, _] 34⟩
  case round =>
    obtain ⟨k, rfl, hk, hcw, hx⟩ := hrel
    have hfl := findI_le l ⟨tx, role, 0, 0⟩
    have ha' := ha.chg hcw (by simp [NoB])
    by_cases hlt' : k < l.length
    · obtain ⟨a, hak⟩ : ∃ a, l[k]? = some a := ⟨l[k], by simp [hlt']⟩
      have hl1 : ((k : Int) < (l.length : Int)) := by omega
      have hd1 : decide ((k : Int) < (l.length : Int)) = true := by simpa using hl1
      obtain ⟨g, cap, rfl, hcap, _, _⟩ := row_some hrow hlt'
      have hi1 : (0 : Int) ≤ (k : Int) := by omega
      cases hless : lessA a ⟨tx, role, 0, 0⟩ with
      | true =>
        have hk1 := findI_yes hk hak hless
        go_wp2
        refine wp_tail_world 16 (by kernel_rfl) (by kernel_rfl) (fun W => Chg NoB w W ∧ At W w.heap.size [.int .i64 tx, .int .i64 role, .int .i64 0, .int .i64 0] 34) ⟨hcw.drew, hx.drew⟩ ?_
        rintro W ⟨hcW, hxW⟩
        have haW := (ha.chg hcW (by simp [NoB])).cell 0 rfl
        obtain ⟨q1, q2, q3, q4⟩ := row_cells (hrow.chg hcW (by simp [NoB])) hak
        have x1 := hxW.cell 0 rfl
        have x2 := hxW.cell 1 rfl
        have x3 := hxW.cell 2 rfl
        have x4 := hxW.cell 3 rfl
        simp only [List.take_succ_cons, List.take_zero, List.drop_succ_cons, List.drop_zero]
        repeat still_step
        refine wpStill_nil ?_
        show wpList _ _ _ _ _ _
        go_wp2_with (go_at_call 35; refine (less_any a ⟨tx, role, 0, 0⟩ W).mono ?_; rintro e w2 ⟨rfl, hc2⟩)
        go_roundw
        case rel => exact ⟨k + 1, by go_num, hk1, hcW.trans hc2 (by simp [NoB]), hxW.chg hc2 (by simp [NoB])⟩
        case measure => simp [intOf]; omega
      | false =>
        have heq := findI_no hk hak hless
        have hat : isAt l k tx role = (decide (a.tx = tx) && decide (a.role = role)) := by simp [isAt, hak]
        have HE := Lib.hid heq
        have HF := Lib.hid hat
        clear hat heq
        go_wp2
        refine wp_tail_world 16 (by kernel_rfl) (by kernel_rfl) (fun W => Chg NoB w W ∧ At W w.heap.size [.int .i64 tx, .int .i64 role, .int .i64 0, .int .i64 0] 34) ⟨hcw.drew, hx.drew⟩ ?_
        rintro W ⟨hcW, hxW⟩
        have haW := (ha.chg hcW (by simp [NoB])).cell 0 rfl
        obtain ⟨q1, q2, q3, q4⟩ := row_cells (hrow.chg hcW (by simp [NoB])) hak
        have x1 := hxW.cell 0 rfl
        have x2 := hxW.cell 1 rfl
        have x3 := hxW.cell 2 rfl
        have x4 := hxW.cell 3 rfl
        simp only [List.take_succ_cons, List.take_zero, List.drop_succ_cons, List.drop_zero]
        repeat still_step
        refine wpStill_nil ?_
        show wpList _ _ _ _ _ _
        go_wp2_with (go_at_call 35; refine (less_any a ⟨tx, role, 0, 0⟩ W).mono ?_; rintro e w2 ⟨rfl, hc2⟩)
        have hcE := hcW.trans hc2 (by simp [NoB])
        clear hless q1 q2 q3 q4 x1 x2 x3 x4 haW
        have haW2 := (ha.chg hcE (by simp [NoB])).cell 0 rfl
        obtain ⟨q1, q2, q3, q4⟩ := row_cells (hrow.chg hcE (by simp [NoB])) hak
        by_cases ht : a.tx = tx
        · by_cases hro : a.role = role
          · have ht1 : (a.tx == tx) = true := by simpa using ht
            have ht2 : (a.role == role) = true := by simpa using hro
            clear ht hro
            go_quiet (fail)
            go_wp2
            go_ret2
            exact ⟨by rw [HE.out, HF.out]; simp at ht1 ht2; simp [ht1, ht2], hcE.drewN _⟩
          · have ht1 : (a.tx == tx) = true := by simpa using ht
            have ht2 : (a.role == role) = false := by simpa using hro
            clear ht
            go_quiet (fail)
            go_wp2
            go_ret2
            exact ⟨by rw [HE.out, HF.out]; simp [hro], hcE.drewN _⟩
        · have ht1 : (a.tx == tx) = false := by simpa using ht
          go_quiet (fail)
          go_wp2
          go_ret2
          exact ⟨by rw [HE.out, HF.out]; simp [ht], hcE.drewN _⟩
    · have heq : findI l ⟨tx, role, 0, 0⟩ = l.length := by omega
      have hkl : k = l.length := by omega
      have hat : isAt l l.length tx role = false := by simp [isAt]
      have HE := Lib.hid heq
      have HF := Lib.hid hat
      clear hat heq
      have hd1 : decide ((k : Int) < (l.length : Int)) = false := by simp; omega
      obtain ⟨ao, cap, rfl, hcap, hnone, hsome⟩ := hrow.shape
      clear hnone hsome
      have HK := Lib.hid hkl
      clear hkl
      go_wp2
      refine wp_tail_quiet 16 (by kernel_rfl) (by kernel_rfl) (fun W => Chg NoB w W) hcw.drew ?_
      rintro W hcW
      have haW := (ha.chg hcW (by simp [NoB])).cell 0 rfl
      simp only [List.take_succ_cons, List.take_zero, List.drop_succ_cons, List.drop_zero]
      repeat (go_big_quiet_step (fail))
      refine wpQuiet_nil ?_
      show wpList _ _ _ _ _ _
      go_wp2_with fail
      go_quiet (fail)
      go_wp2
      go_ret2
      exact ⟨by rw [HE.out, HF.out, HK.out]; rfl, hcW.drewN _⟩
end Go.Proofs.Ytgpholdeiahldaa
