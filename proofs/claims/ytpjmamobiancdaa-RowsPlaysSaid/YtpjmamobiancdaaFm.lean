/- The reference's 'May' of a checkpoint of one row. Conditions: at most 2^40 members and locks. -/
import Derived.Test.YtpjmamobiancdaaFo
import Derived.Test.YtpjmamobiancdaaRm
import Derived.Test.YtpjmamobiancdaaRk
namespace Go.Proofs.Ytpjmamobiancdaa
open Go.RowKit Go.Maps Go.BigFrame
set_option maxHeartbeats 8000000 in
theorem sameLists_any (b : Nat) (r : Rw) (mv lv : Value) (w : World) (hat : At w b (cellsR (r, mv, lv)) 32) (hm0 : Sees w cellsI mv r.ms) (hl0 : Sees w cellsL lv r.ls) (hml : r.ms.length ≤ 1099511627776) (hll : r.ls.length ≤ 1099511627776) :
    Calls Try.prog 62 #[recV (.slice (some ⟨b, 0, none⟩) 1 1), recV (.slice (some ⟨b, 0, none⟩) 1 1)] w fun e w' => e = .returned (.bool true) ∧ Chg NoB w w' := by
  have hrow := fun W (hW : Chg NoB w W) => sameRow_any r r mv lv mv lv W (hm0.no hW) (hl0.no hW) (hm0.no hW) (hl0.no hW) hml hll hml hll
  rw [(sameB_iff r r).2 rfl] at hrow
  have hnil := fun W => sameInts_any (.slice none 0 0) (.slice none 0 0) [] [] W (Sees.nil W) (Sees.nil W) (by simp) (by simp)
  simp only [decide_true] at hnil
  obtain ⟨am, cm, rfl⟩ := hm0.shape
  obtain ⟨al, cl, rfl⟩ := hl0.shape
  obtain ⟨tx, state, first, last, undo, coord, ms, ls⟩ := r
  unfold rowV at hrow
  unfold recV recC
  simp only [cellsR] at *
  have hbox := At.new w [.int .i64 8, .int .i64 0, .int .i64 0, .int .i64 0, .string ⟨#[]⟩, .bool false, .string ⟨#[]⟩, .bool false, .string ⟨#[]⟩, .int .i64 0, .slice none 0 0, .slice none 0 0, .slice (some ⟨b, 0, none⟩) 1 1, .slice none 0 0, .slice none 0 0, .slice none 0 0] 71
  have hbox2 := At.new (w.alloc (.cells #[.int .i64 8, .int .i64 0, .int .i64 0, .int .i64 0, .string ⟨#[]⟩, .bool false, .string ⟨#[]⟩, .bool false, .string ⟨#[]⟩, .int .i64 0, .slice none 0 0, .slice none 0 0, .slice (some ⟨b, 0, none⟩) 1 1, .slice none 0 0, .slice none 0 0, .slice none 0 0] 71)) [.int .i64 8, .int .i64 0, .int .i64 0, .int .i64 0, .string ⟨#[]⟩, .bool false, .string ⟨#[]⟩, .bool false, .string ⟨#[]⟩, .int .i64 0, .slice none 0 0, .slice none 0 0, .slice (some ⟨b, 0, none⟩) 1 1, .slice none 0 0, .slice none 0 0, .slice none 0 0] 71
  have hbox1 := hbox.alloc (.cells #[.int .i64 8, .int .i64 0, .int .i64 0, .int .i64 0, .string ⟨#[]⟩, .bool false, .string ⟨#[]⟩, .bool false, .string ⟨#[]⟩, .int .i64 0, .slice none 0 0, .slice none 0 0, .slice (some ⟨b, 0, none⟩) 1 1, .slice none 0 0, .slice none 0 0, .slice none 0 0] 71)
  rw [World.size_alloc] at hbox2
  have hcb := ((Chg.refl NoB w).alloc (.cells #[.int .i64 8, .int .i64 0, .int .i64 0, .int .i64 0, .string ⟨#[]⟩, .bool false, .string ⟨#[]⟩, .bool false, .string ⟨#[]⟩, .int .i64 0, .slice none 0 0, .slice none 0 0, .slice (some ⟨b, 0, none⟩) 1 1, .slice none 0 0, .slice none 0 0, .slice none 0 0] 71)).alloc (.cells #[.int .i64 8, .int .i64 0, .int .i64 0, .int .i64 0, .string ⟨#[]⟩, .bool false, .string ⟨#[]⟩, .bool false, .string ⟨#[]⟩, .int .i64 0, .slice none 0 0, .slice none 0 0, .slice (some ⟨b, 0, none⟩) 1 1, .slice none 0 0, .slice none 0 0, .slice none 0 0] 71)
  go_enter Try.func62, Try.ntmps62
  go_wp2_with (go_at_call 25; refine (hnil _).mono ?_; clear hnil; rintro e w2 ⟨rfl, hc2⟩)
  have hcw2 := hcb.trans hc2 (by simp [NoB])
  go_loopw [5] (fun i wr => ∃ k : Nat, i = .int .i64 k ∧ k ≤ 1 ∧ Chg NoB w2 wr) (fun i _ => 1 - (intOf i).toNat)
  case atStart => exact ⟨0, rfl, Nat.zero_le _, Chg.refl _ _⟩
  case round =>
    obtain ⟨k, rfl, hk, hcr⟩ := hrel
    have hcw := hcw2.trans hcr (by simp [NoB])
    have hb1 := (hbox1.chg hc2 (by simp [NoB])).chg hcr (by simp [NoB])
    have hb2 := (hbox2.chg hc2 (by simp [NoB])).chg hcr (by simp [NoB])
    have c12 := hb1.cell 12 rfl
    have d12 := hb2.cell 12 rfl
    by_cases hk0 : k = 0
    · subst hk0
      have hrw := hat.chg hcw (by simp [NoB])
      have x12 := fun p : WIn wr => p.cell c12
      have y12 := fun p : WIn wr => p.cell d12
      have x0 := fun p : WIn wr => p.cell (hrw.cell 0 rfl)
      have x1 := fun p : WIn wr => p.cell (hrw.cell 1 rfl)
      have x2 := fun p : WIn wr => p.cell (hrw.cell 2 rfl)
      have x3 := fun p : WIn wr => p.cell (hrw.cell 3 rfl)
      have x4 := fun p : WIn wr => p.cell (hrw.cell 4 rfl)
      have x5 := fun p : WIn wr => p.cell (hrw.cell 5 rfl)
      have x6 := fun p : WIn wr => p.cell (hrw.cell 6 rfl)
      have x7 := fun p : WIn wr => p.cell (hrw.cell 7 rfl)
      have hn := fun p : WIn wr => hrow p.w (hcw.trans p.h (by simp [NoB]))
      clear hrow hat hrw hm0 hl0
      go_upto_region 6 with (fail)
      refine wp_region_in _ (Chg.refl _ _) (by kernel_rfl) (by kernel_rfl) ?_
      repeat (go_big_quiet_step (exact Calls.in_of (hn _)))
      refine wpQuiet_nil ?_
      rintro _ ⟨⟨W2, hW2⟩, rfl⟩
      go_wp2
      exact ⟨⟨1, by go_num, by omega, hcr.trans hW2 (by simp [NoB])⟩, by simp [intOf]⟩
    · obtain rfl : k = 1 := by omega
      have c13 := hb1.cell 13 rfl
      clear hrow hat hm0 hl0
      go_wp2
      go_loopw [6] (fun i wq => i = .int .i64 0 ∧ Chg NoB wr wq) (fun _ _ => 0)
      case atStart => exact ⟨rfl, Chg.refl _ _⟩
      case round =>
        obtain ⟨rfl, hcq⟩ := hrel
        have c13' := (hb1.chg hcq (by simp [NoB])).cell 13 rfl
        have c14' := (hb1.chg hcq (by simp [NoB])).cell 14 rfl
        have hb1' := hb1.chg hcq (by simp [NoB])
        clear c13 hb1 hb2 c12 d12
        go_wp2
        go_loopw [7] (fun i ws => i = .int .i64 0 ∧ Chg NoB w ws ∧ At ws w.heap.size [.int .i64 8, .int .i64 0, .int .i64 0, .int .i64 0, .string ⟨#[]⟩, .bool false, .string ⟨#[]⟩, .bool false, .string ⟨#[]⟩, .int .i64 0, .slice none 0 0, .slice none 0 0, .slice (some ⟨b, 0, none⟩) 1 1, .slice none 0 0, .slice none 0 0, .slice none 0 0] 71) (fun _ _ => 0)
        case atStart => exact ⟨rfl, hcw.trans hcq (by simp [NoB]), hb1'⟩
        case round =>
          obtain ⟨rfl, hcs, hbs⟩ := hrel
          have c14s := hbs.cell 14 rfl
          clear c13' c14' hb1'
          go_wp2
          go_ret
          exact ⟨rfl, hcs⟩
end Go.Proofs.Ytpjmamobiancdaa
