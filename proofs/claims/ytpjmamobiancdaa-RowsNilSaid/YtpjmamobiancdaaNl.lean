/- The walk of 'RowsNil'. Conditions: none. -/
import Derived.Test.YtpjmamobiancdaaIn
import Derived.Test.YtpjmamobiancdaaAw
namespace Go.Proofs.Ytpjmamobiancdaa
open Go.RowKit Go.Maps Go.BigFrame
def rawV (tx state first last undo coord : Int) (am : Option Addr) (nm cm : Nat) (al : Option Addr) (nl cl : Nat) : Value := .agg #[.int .i64 tx, .int .i64 state, .int .i64 first, .int .i64 last, .int .i64 undo, .int .i64 coord, .slice am nm cm, .slice al nl cl]
set_option maxHeartbeats 4000000 in
theorem walk_rowsNil (tx state first last undo coord : Int) (am : Option Addr) (nm cm : Nat) (al : Option Addr) (nl cl : Nat) (n : Int) (w : World) :
    Calls Try.prog 7 #[rawV tx state first last undo coord am nm cm al nl cl, .int .i64 n] w fun e w' => e = .returned (.bool true) ∧ Below w.heap.size w w' := by
  have h1 := fun W => get_nil n W
  have h2 := fun W => add_nil ⟨tx, state, first, last, undo, coord, [], []⟩ (.slice am nm cm) (.slice al nl cl) W
  have h3 := fun W => put_nil ⟨tx, state, first, last, undo, coord, [], []⟩ (.slice am nm cm) (.slice al nl cl) W
  have h4 := fun W => drop_nil n W
  have h5 := fun W => all_nil W
  have h6 := fun W => in_nil n W
  have h7 := fun W => least_nil W
  have h8 := fun W => awake_any W
  unfold rawV
  unfold rowV at h2 h3
  unfold valR rowV zeroX zeroR at h1
  simp only at h1 h2 h3
  have hbox := At.new w [.int .i64 tx, .int .i64 state, .int .i64 first, .int .i64 last, .int .i64 undo, .int .i64 coord, .slice am nm cm, .slice al nl cl] 32
  have hcb := (Chg.refl NoB w).alloc (.cells #[.int .i64 tx, .int .i64 state, .int .i64 first, .int .i64 last, .int .i64 undo, .int .i64 coord, .slice am nm cm, .slice al nl cl] 32)
  go_enter Try.func7, Try.ntmps7
  go_wp2_with (first
    | (go_at_call 18; refine (h1 _).mono ?_; clear h1; rintro e W1 ⟨rfl, hc1⟩; have hb1 := hbox.chg hc1 (by simp [NoB]); have hl1 := hb1.lt; have x0 := hb1.cell 0 rfl; have x1 := hb1.cell 1 rfl; have x2 := hb1.cell 2 rfl; have x3 := hb1.cell 3 rfl; have x4 := hb1.cell 4 rfl; have x5 := hb1.cell 5 rfl; have x6 := hb1.cell 6 rfl; have x7 := hb1.cell 7 rfl; go_frame)
    | (go_at_call 11; refine (h2 _).mono ?_; clear h2; rintro e W2 ⟨rfl, hc2⟩; have hb2 := (hb1.alloc _).chg hc2 (by simp [NoB]); have hl2 := hb2.lt; have y0 := hb2.cell 0 rfl; have y1 := hb2.cell 1 rfl; have y2 := hb2.cell 2 rfl; have y3 := hb2.cell 3 rfl; have y4 := hb2.cell 4 rfl; have y5 := hb2.cell 5 rfl; have y6 := hb2.cell 6 rfl; have y7 := hb2.cell 7 rfl; go_frame)
    | (go_at_call 16; refine (h3 _).mono ?_; clear h3; rintro e W3 ⟨rfl, hc3⟩; go_frame)
    | (go_at_call 23; refine (h4 _).mono ?_; clear h4; rintro e W4 ⟨rfl, hc4⟩; go_frame)
    | (go_at_call 13; refine (h5 _).mono ?_; clear h5; rintro e W5 ⟨rfl, hc5⟩; go_frame)
    | (go_at_call 26; refine (h6 _).mono ?_; clear h6; rintro e W6 ⟨rfl, hc6⟩; go_frame)
    | (go_at_call 15; refine (h7 _).mono ?_; clear h7; rintro e W7 ⟨rfl, hc7⟩; go_frame)
    | (go_at_call 9; refine (h8 _).mono ?_; clear h8; rintro e W8 ⟨rfl, hc8⟩; go_frame)
    | fail)
  go_ret
  have hN : ∀ {a : World} (j : Nat), j < a.heap.size → NoB j → NoB j := fun _ _ h => h
  exact ⟨rfl, (((((((((hcb.trans hc1 hN).alloc _).trans hc2 hN).trans hc3 hN).trans hc4 hN).trans hc5 hN).trans hc6 hN).trans hc7 hN).trans hc8 hN).below (Nat.le_refl _) (fun k h => h.elim)⟩
end Go.Proofs.Ytpjmamobiancdaa
