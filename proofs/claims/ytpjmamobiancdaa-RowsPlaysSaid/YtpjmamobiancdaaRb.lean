/- Package rec's 'May' of a checkpoint of one row. Conditions: at most 2^40 members and locks. -/
import Derived.Test.YtpjmamobiancdaaRr
namespace Go.Proofs.Ytpjmamobiancdaa
open Go.RowKit Go.Maps Go.BigFrame
def cellsR (x : Rw × Value × Value) : List Value := [.int .i64 x.1.tx, .int .i64 x.1.state, .int .i64 x.1.first, .int .i64 x.1.last, .int .i64 x.1.undo, .int .i64 x.1.coord, x.2.1, x.2.2]
theorem cellsR_len (x : Rw × Value × Value) : (cellsR x).length = 8 := rfl
/-- A block whose one element is a row. -/
def RowAt (w : World) (ad : Addr) (r : Rw) (mv lv : Value) : Prop := ∀ i u, (cellsR (r, mv, lv))[i]? = some u → w.cell? (ad.add i) = some u
set_option maxHeartbeats 2000000 in
theorem rising_row (b : Nat) (r : Rw) (mv lv : Value) (w : World) (hat : At w b (cellsR (r, mv, lv)) 32) (hm0 : Sees w cellsI mv r.ms) (hl0 : Sees w cellsL lv r.ls) (hml : r.ms.length ≤ 1099511627776) (hll : r.ls.length ≤ 1099511627776) :
    Calls Try.prog 65 #[.slice (some ⟨b, 0, none⟩) 1 1, .int .i64 64, .func (.func 66) #[] #[], .func (.func 67) #[] #[]] w fun e w' => e = .returned (.bool (rowB r)) ∧ Chg NoB w w' := by
  have hrow := fun W (hW : Chg NoB w W) => row_any r mv lv W (hm0.no hW) (hl0.no hW) hml hll
  obtain ⟨am, cm, rfl⟩ := hm0.shape
  obtain ⟨al, cl, rfl⟩ := hl0.shape
  obtain ⟨tx, state, first, last, undo, coord, ms, ls⟩ := r
  unfold rowV at hrow
  simp only [cellsR] at *
  generalize hB : rowB ⟨tx, state, first, last, undo, coord, ms, ls⟩ = B at *
  clear hB
  go_enter Try.func65, Try.ntmps65
  go_wp2
  go_loopw [17] (fun i wr => ∃ k : Nat, i = .int .i64 k ∧ k ≤ 1 ∧ Chg NoB w wr ∧ (k = 1 → B = true)) (fun i _ => 1 - (intOf i).toNat)
  case atStart => exact ⟨0, rfl, Nat.zero_le _, Chg.refl _ w, fun h => by cases h⟩
  case round =>
    obtain ⟨k, rfl, hk, hcw, hR⟩ := hrel
    by_cases hlt' : k = 0
    · subst hlt'
      have hw := hat.chg hcw (by simp [NoB])
      have q0 := hw.cell 0 rfl
      have q1 := hw.cell 1 rfl
      have q2 := hw.cell 2 rfl
      have q3 := hw.cell 3 rfl
      have q4 := hw.cell 4 rfl
      have q5 := hw.cell 5 rfl
      have q6 := hw.cell 6 rfl
      have q7 := hw.cell 7 rfl
      have hbox := At.new wr [.int .i64 tx, .int .i64 state, .int .i64 first, .int .i64 last, .int .i64 undo, .int .i64 coord, .slice am ms.length cm, .slice al ls.length cl] 32
      have hcb := hcw.alloc (.cells #[.int .i64 tx, .int .i64 state, .int .i64 first, .int .i64 last, .int .i64 undo, .int .i64 coord, .slice am ms.length cm, .slice al ls.length cl] 32)
      have x0 := fun p : WIn (wr.alloc (.cells #[.int .i64 tx, .int .i64 state, .int .i64 first, .int .i64 last, .int .i64 undo, .int .i64 coord, .slice am ms.length cm, .slice al ls.length cl] 32)) => p.cell (hbox.cell 0 rfl)
      have x1 := fun p : WIn (wr.alloc (.cells #[.int .i64 tx, .int .i64 state, .int .i64 first, .int .i64 last, .int .i64 undo, .int .i64 coord, .slice am ms.length cm, .slice al ls.length cl] 32)) => p.cell (hbox.cell 1 rfl)
      have x2 := fun p : WIn (wr.alloc (.cells #[.int .i64 tx, .int .i64 state, .int .i64 first, .int .i64 last, .int .i64 undo, .int .i64 coord, .slice am ms.length cm, .slice al ls.length cl] 32)) => p.cell (hbox.cell 2 rfl)
      have x3 := fun p : WIn (wr.alloc (.cells #[.int .i64 tx, .int .i64 state, .int .i64 first, .int .i64 last, .int .i64 undo, .int .i64 coord, .slice am ms.length cm, .slice al ls.length cl] 32)) => p.cell (hbox.cell 3 rfl)
      have x4 := fun p : WIn (wr.alloc (.cells #[.int .i64 tx, .int .i64 state, .int .i64 first, .int .i64 last, .int .i64 undo, .int .i64 coord, .slice am ms.length cm, .slice al ls.length cl] 32)) => p.cell (hbox.cell 4 rfl)
      have x5 := fun p : WIn (wr.alloc (.cells #[.int .i64 tx, .int .i64 state, .int .i64 first, .int .i64 last, .int .i64 undo, .int .i64 coord, .slice am ms.length cm, .slice al ls.length cl] 32)) => p.cell (hbox.cell 5 rfl)
      have x6 := fun p : WIn (wr.alloc (.cells #[.int .i64 tx, .int .i64 state, .int .i64 first, .int .i64 last, .int .i64 undo, .int .i64 coord, .slice am ms.length cm, .slice al ls.length cl] 32)) => p.cell (hbox.cell 6 rfl)
      have x7 := fun p : WIn (wr.alloc (.cells #[.int .i64 tx, .int .i64 state, .int .i64 first, .int .i64 last, .int .i64 undo, .int .i64 coord, .slice am ms.length cm, .slice al ls.length cl] 32)) => p.cell (hbox.cell 7 rfl)
      have hn := fun p : WIn (wr.alloc (.cells #[.int .i64 tx, .int .i64 state, .int .i64 first, .int .i64 last, .int .i64 undo, .int .i64 coord, .slice am ms.length cm, .slice al ls.length cl] 32)) => hrow p.w (hcb.trans p.h (by simp [NoB]))
      clear hrow hat hw
      cases B with
      | false =>
        go_upto_region 6 with (fail)
        refine wp_region_in _ (Chg.refl _ _) (by kernel_rfl) (by kernel_rfl) ?_
        repeat (go_big_quiet_step (exact Calls.in_of (hn _)))
        refine wpQuiet_nil ?_
        rintro _ ⟨⟨W2, hW2⟩, rfl⟩
        go_wp2
        go_ret
        exact ⟨rfl, hcb.trans hW2 (by simp [NoB])⟩
      | true =>
        go_upto_region 6 with (fail)
        refine wp_region_in _ (Chg.refl _ _) (by kernel_rfl) (by kernel_rfl) ?_
        repeat (go_big_quiet_step (exact Calls.in_of (hn _)))
        refine wpQuiet_nil ?_
        rintro _ ⟨⟨W2, hW2⟩, rfl⟩
        go_wp2
        exact ⟨⟨1, by go_num, by omega, hcb.trans hW2 (by simp [NoB]), fun _ => trivial⟩, by simp [intOf]⟩
    · obtain rfl : k = 1 := by omega
      have hB := hR rfl
      subst hB
      clear hrow
      go_wp2
      go_ret
      exact ⟨rfl, hcw⟩
end Go.Proofs.Ytpjmamobiancdaa
