/- The reference's 'May' of a checkpoint of one row. Conditions: at most 2^40 members and locks. -/
import Derived.Test.YtpjmamobiancdaaFr
import Derived.Test.YtpjmamobiancdaaFs
namespace Go.Proofs.Ytpjmamobiancdaa
open Go.RowKit Go.Maps Go.BigFrame
set_option maxHeartbeats 4000000 in
theorem rcheck_any (b : Nat) (r : Rw) (mv lv : Value) (w : World) (hat : At w b (cellsR (r, mv, lv)) 32) (hm0 : Sees w cellsI mv r.ms) (hl0 : Sees w cellsL lv r.ls) (hml : r.ms.length ≤ 1099511627776) (hll : r.ls.length ≤ 1099511627776) :
    Calls Try.prog 44 #[recV (.slice (some ⟨b, 0, none⟩) 1 1)] w fun e w' => e = .returned (.bool (rowB r)) ∧ Chg NoB w w' := by
  have h1 := fun W (hW : Chg NoB w W) => rrows_any b r mv lv W (hat.chg hW (by simp [NoB])) (hm0.no hW) (hl0.no hW) hml hll
  generalize rowB r = B at h1 ⊢
  clear hat hm0 hl0 hml hll
  unfold recV recC
  have hbox := At.new w [.int .i64 8, .int .i64 0, .int .i64 0, .int .i64 0, .string ⟨#[]⟩, .bool false, .string ⟨#[]⟩, .bool false, .string ⟨#[]⟩, .int .i64 0, .slice none 0 0, .slice none 0 0, .slice (some ⟨b, 0, none⟩) 1 1, .slice none 0 0, .slice none 0 0, .slice none 0 0] 71
  have hcb := (Chg.refl NoB w).alloc (.cells #[.int .i64 8, .int .i64 0, .int .i64 0, .int .i64 0, .string ⟨#[]⟩, .bool false, .string ⟨#[]⟩, .bool false, .string ⟨#[]⟩, .int .i64 0, .slice none 0 0, .slice none 0 0, .slice (some ⟨b, 0, none⟩) 1 1, .slice none 0 0, .slice none 0 0, .slice none 0 0] 71)
  have h1' := h1 _ hcb
  clear h1
  cases B with
  | false =>
    go_enter Try.func44, Try.ntmps44
    go_wp2_with (go_at_call 63; refine h1'.mono ?_; clear h1'; rintro e w2 ⟨rfl, hc2⟩)
    go_ret
    exact ⟨rfl, hcb.trans hc2 (by simp [NoB])⟩
  | true =>
    go_enter Try.func44, Try.ntmps44
    go_wp2_with (go_at_call 63; refine h1'.mono ?_; clear h1'; rintro e w2 ⟨rfl, hc2⟩; have hb2 := hbox.chg hc2 (by simp [NoB]); have y13 := hb2.cell 13 rfl; have y14 := hb2.cell 14 rfl; have y15 := hb2.cell 15 rfl)
    go_loopw [3] (fun i wq => i = .int .i64 0 ∧ Chg NoB w wq ∧ At wq w.heap.size [.int .i64 8, .int .i64 0, .int .i64 0, .int .i64 0, .string ⟨#[]⟩, .bool false, .string ⟨#[]⟩, .bool false, .string ⟨#[]⟩, .int .i64 0, .slice none 0 0, .slice none 0 0, .slice (some ⟨b, 0, none⟩) 1 1, .slice none 0 0, .slice none 0 0, .slice none 0 0] 71) (fun _ _ => 0)
    case atStart => exact ⟨rfl, hcb.trans hc2 (by simp [NoB]), hb2⟩
    case round =>
      obtain ⟨rfl, hcs, hbs⟩ := hrel
      have c13s := hbs.cell 13 rfl
      clear y13 y14 y15 hb2 hbox
      go_wp2
      go_loopw [5] (fun i wq => i = .int .i64 0 ∧ Chg NoB w wq ∧ At wq w.heap.size [.int .i64 8, .int .i64 0, .int .i64 0, .int .i64 0, .string ⟨#[]⟩, .bool false, .string ⟨#[]⟩, .bool false, .string ⟨#[]⟩, .int .i64 0, .slice none 0 0, .slice none 0 0, .slice (some ⟨b, 0, none⟩) 1 1, .slice none 0 0, .slice none 0 0, .slice none 0 0] 71) (fun _ _ => 0)
      case atStart => exact ⟨rfl, hcs, hbs⟩
      case round =>
        clear c13s hcs hbs
        obtain ⟨rfl, hcs, hbs⟩ := hrel
        have c14s := hbs.cell 14 rfl
        go_wp2
        go_loopw [6] (fun i wq => i = .int .i64 0 ∧ Chg NoB w wq ∧ At wq w.heap.size [.int .i64 8, .int .i64 0, .int .i64 0, .int .i64 0, .string ⟨#[]⟩, .bool false, .string ⟨#[]⟩, .bool false, .string ⟨#[]⟩, .int .i64 0, .slice none 0 0, .slice none 0 0, .slice (some ⟨b, 0, none⟩) 1 1, .slice none 0 0, .slice none 0 0, .slice none 0 0] 71) (fun _ _ => 0)
        case atStart => exact ⟨rfl, hcs, hbs⟩
        case round =>
          clear c14s hcs hbs
          obtain ⟨rfl, hcs, hbs⟩ := hrel
          have c15s := hbs.cell 15 rfl
          go_wp2
          go_ret
          exact ⟨rfl, hcs⟩
set_option maxHeartbeats 8000000 in
theorem rmay_rec (b : Nat) (r : Rw) (mv lv : Value) (w : World) (hat : At w b (cellsR (r, mv, lv)) 32) (hm0 : Sees w cellsI mv r.ms) (hl0 : Sees w cellsL lv r.ls) (hml : r.ms.length ≤ 1099511627776) (hll : r.ls.length ≤ 1099511627776) :
    Calls Try.prog 33 #[recV (.slice (some ⟨b, 0, none⟩) 1 1)] w fun e w' => e = .returned (.bool (rowB r)) ∧ Chg NoB w w' := by
  have h1 := fun W (hW : Chg NoB w W) => rcheck_any b r mv lv W (hat.chg hW (by simp [NoB])) (hm0.no hW) (hl0.no hW) hml hll
  have h2 := fun W => only_any b W
  have h3' := fun W (hW : Chg NoB w W) => same_rec b r mv lv W (hat.chg hW (by simp [NoB])) (hm0.no hW) (hl0.no hW) hml hll
  generalize rowB r = B at h1 ⊢
  clear hat hm0 hl0 hml hll
  unfold recV recC at *
  have hbox := At.new w [.int .i64 8, .int .i64 0, .int .i64 0, .int .i64 0, .string ⟨#[]⟩, .bool false, .string ⟨#[]⟩, .bool false, .string ⟨#[]⟩, .int .i64 0, .slice none 0 0, .slice none 0 0, .slice (some ⟨b, 0, none⟩) 1 1, .slice none 0 0, .slice none 0 0, .slice none 0 0] 71
  have hcb := (Chg.refl NoB w).alloc (.cells #[.int .i64 8, .int .i64 0, .int .i64 0, .int .i64 0, .string ⟨#[]⟩, .bool false, .string ⟨#[]⟩, .bool false, .string ⟨#[]⟩, .int .i64 0, .slice none 0 0, .slice none 0 0, .slice (some ⟨b, 0, none⟩) 1 1, .slice none 0 0, .slice none 0 0, .slice none 0 0] 71)
  have h3 := fun p : WIn (w.alloc (.cells #[.int .i64 8, .int .i64 0, .int .i64 0, .int .i64 0, .string ⟨#[]⟩, .bool false, .string ⟨#[]⟩, .bool false, .string ⟨#[]⟩, .int .i64 0, .slice none 0 0, .slice none 0 0, .slice (some ⟨b, 0, none⟩) 1 1, .slice none 0 0, .slice none 0 0, .slice none 0 0] 71)) => h3' p.w (hcb.trans p.h (by simp [NoB]))
  have x0 := fun p : WIn (w.alloc (.cells #[.int .i64 8, .int .i64 0, .int .i64 0, .int .i64 0, .string ⟨#[]⟩, .bool false, .string ⟨#[]⟩, .bool false, .string ⟨#[]⟩, .int .i64 0, .slice none 0 0, .slice none 0 0, .slice (some ⟨b, 0, none⟩) 1 1, .slice none 0 0, .slice none 0 0, .slice none 0 0] 71)) => p.cell (hbox.cell 0 rfl)
  have x1 := fun p : WIn (w.alloc (.cells #[.int .i64 8, .int .i64 0, .int .i64 0, .int .i64 0, .string ⟨#[]⟩, .bool false, .string ⟨#[]⟩, .bool false, .string ⟨#[]⟩, .int .i64 0, .slice none 0 0, .slice none 0 0, .slice (some ⟨b, 0, none⟩) 1 1, .slice none 0 0, .slice none 0 0, .slice none 0 0] 71)) => p.cell (hbox.cell 1 rfl)
  have x2 := fun p : WIn (w.alloc (.cells #[.int .i64 8, .int .i64 0, .int .i64 0, .int .i64 0, .string ⟨#[]⟩, .bool false, .string ⟨#[]⟩, .bool false, .string ⟨#[]⟩, .int .i64 0, .slice none 0 0, .slice none 0 0, .slice (some ⟨b, 0, none⟩) 1 1, .slice none 0 0, .slice none 0 0, .slice none 0 0] 71)) => p.cell (hbox.cell 2 rfl)
  have x3 := fun p : WIn (w.alloc (.cells #[.int .i64 8, .int .i64 0, .int .i64 0, .int .i64 0, .string ⟨#[]⟩, .bool false, .string ⟨#[]⟩, .bool false, .string ⟨#[]⟩, .int .i64 0, .slice none 0 0, .slice none 0 0, .slice (some ⟨b, 0, none⟩) 1 1, .slice none 0 0, .slice none 0 0, .slice none 0 0] 71)) => p.cell (hbox.cell 3 rfl)
  have x4 := fun p : WIn (w.alloc (.cells #[.int .i64 8, .int .i64 0, .int .i64 0, .int .i64 0, .string ⟨#[]⟩, .bool false, .string ⟨#[]⟩, .bool false, .string ⟨#[]⟩, .int .i64 0, .slice none 0 0, .slice none 0 0, .slice (some ⟨b, 0, none⟩) 1 1, .slice none 0 0, .slice none 0 0, .slice none 0 0] 71)) => p.cell (hbox.cell 4 rfl)
  have x5 := fun p : WIn (w.alloc (.cells #[.int .i64 8, .int .i64 0, .int .i64 0, .int .i64 0, .string ⟨#[]⟩, .bool false, .string ⟨#[]⟩, .bool false, .string ⟨#[]⟩, .int .i64 0, .slice none 0 0, .slice none 0 0, .slice (some ⟨b, 0, none⟩) 1 1, .slice none 0 0, .slice none 0 0, .slice none 0 0] 71)) => p.cell (hbox.cell 5 rfl)
  have x6 := fun p : WIn (w.alloc (.cells #[.int .i64 8, .int .i64 0, .int .i64 0, .int .i64 0, .string ⟨#[]⟩, .bool false, .string ⟨#[]⟩, .bool false, .string ⟨#[]⟩, .int .i64 0, .slice none 0 0, .slice none 0 0, .slice (some ⟨b, 0, none⟩) 1 1, .slice none 0 0, .slice none 0 0, .slice none 0 0] 71)) => p.cell (hbox.cell 6 rfl)
  have x7 := fun p : WIn (w.alloc (.cells #[.int .i64 8, .int .i64 0, .int .i64 0, .int .i64 0, .string ⟨#[]⟩, .bool false, .string ⟨#[]⟩, .bool false, .string ⟨#[]⟩, .int .i64 0, .slice none 0 0, .slice none 0 0, .slice (some ⟨b, 0, none⟩) 1 1, .slice none 0 0, .slice none 0 0, .slice none 0 0] 71)) => p.cell (hbox.cell 7 rfl)
  have x8 := fun p : WIn (w.alloc (.cells #[.int .i64 8, .int .i64 0, .int .i64 0, .int .i64 0, .string ⟨#[]⟩, .bool false, .string ⟨#[]⟩, .bool false, .string ⟨#[]⟩, .int .i64 0, .slice none 0 0, .slice none 0 0, .slice (some ⟨b, 0, none⟩) 1 1, .slice none 0 0, .slice none 0 0, .slice none 0 0] 71)) => p.cell (hbox.cell 8 rfl)
  have x9 := fun p : WIn (w.alloc (.cells #[.int .i64 8, .int .i64 0, .int .i64 0, .int .i64 0, .string ⟨#[]⟩, .bool false, .string ⟨#[]⟩, .bool false, .string ⟨#[]⟩, .int .i64 0, .slice none 0 0, .slice none 0 0, .slice (some ⟨b, 0, none⟩) 1 1, .slice none 0 0, .slice none 0 0, .slice none 0 0] 71)) => p.cell (hbox.cell 9 rfl)
  have x10 := fun p : WIn (w.alloc (.cells #[.int .i64 8, .int .i64 0, .int .i64 0, .int .i64 0, .string ⟨#[]⟩, .bool false, .string ⟨#[]⟩, .bool false, .string ⟨#[]⟩, .int .i64 0, .slice none 0 0, .slice none 0 0, .slice (some ⟨b, 0, none⟩) 1 1, .slice none 0 0, .slice none 0 0, .slice none 0 0] 71)) => p.cell (hbox.cell 10 rfl)
  have x11 := fun p : WIn (w.alloc (.cells #[.int .i64 8, .int .i64 0, .int .i64 0, .int .i64 0, .string ⟨#[]⟩, .bool false, .string ⟨#[]⟩, .bool false, .string ⟨#[]⟩, .int .i64 0, .slice none 0 0, .slice none 0 0, .slice (some ⟨b, 0, none⟩) 1 1, .slice none 0 0, .slice none 0 0, .slice none 0 0] 71)) => p.cell (hbox.cell 11 rfl)
  have x12 := fun p : WIn (w.alloc (.cells #[.int .i64 8, .int .i64 0, .int .i64 0, .int .i64 0, .string ⟨#[]⟩, .bool false, .string ⟨#[]⟩, .bool false, .string ⟨#[]⟩, .int .i64 0, .slice none 0 0, .slice none 0 0, .slice (some ⟨b, 0, none⟩) 1 1, .slice none 0 0, .slice none 0 0, .slice none 0 0] 71)) => p.cell (hbox.cell 12 rfl)
  have x13 := fun p : WIn (w.alloc (.cells #[.int .i64 8, .int .i64 0, .int .i64 0, .int .i64 0, .string ⟨#[]⟩, .bool false, .string ⟨#[]⟩, .bool false, .string ⟨#[]⟩, .int .i64 0, .slice none 0 0, .slice none 0 0, .slice (some ⟨b, 0, none⟩) 1 1, .slice none 0 0, .slice none 0 0, .slice none 0 0] 71)) => p.cell (hbox.cell 13 rfl)
  have x14 := fun p : WIn (w.alloc (.cells #[.int .i64 8, .int .i64 0, .int .i64 0, .int .i64 0, .string ⟨#[]⟩, .bool false, .string ⟨#[]⟩, .bool false, .string ⟨#[]⟩, .int .i64 0, .slice none 0 0, .slice none 0 0, .slice (some ⟨b, 0, none⟩) 1 1, .slice none 0 0, .slice none 0 0, .slice none 0 0] 71)) => p.cell (hbox.cell 14 rfl)
  have x15 := fun p : WIn (w.alloc (.cells #[.int .i64 8, .int .i64 0, .int .i64 0, .int .i64 0, .string ⟨#[]⟩, .bool false, .string ⟨#[]⟩, .bool false, .string ⟨#[]⟩, .int .i64 0, .slice none 0 0, .slice none 0 0, .slice (some ⟨b, 0, none⟩) 1 1, .slice none 0 0, .slice none 0 0, .slice none 0 0] 71)) => p.cell (hbox.cell 15 rfl)
  go_enter Try.func33, Try.ntmps33
  go_upto_region 1 with (fail)
  refine wp_region_in _ (Chg.refl _ _) (by kernel_rfl) (by kernel_rfl) ?_
  repeat (go_big_quiet_step (first | exact Calls.in_of (h2 _) | exact Calls.in_of (h3 _)))
  refine wpQuiet_nil ?_
  rintro _ ⟨⟨W2, hW2⟩, rfl⟩
  have h1' := h1 _ (hcb.trans hW2 (by simp [NoB]))
  have hb2 := hbox.chg hW2 (by simp [NoB])
  clear h1 h2 h3 h3' x0 x1 x2 x3 x4 x5 x6 x7 x8 x9 x10 x11 x12 x13 x14 x15
  have y0 := hb2.cell 0 rfl; have y1 := hb2.cell 1 rfl; have y2 := hb2.cell 2 rfl; have y3 := hb2.cell 3 rfl; have y4 := hb2.cell 4 rfl; have y5 := hb2.cell 5 rfl; have y6 := hb2.cell 6 rfl; have y7 := hb2.cell 7 rfl; have y8 := hb2.cell 8 rfl; have y9 := hb2.cell 9 rfl; have y10 := hb2.cell 10 rfl; have y11 := hb2.cell 11 rfl; have y12 := hb2.cell 12 rfl; have y13 := hb2.cell 13 rfl; have y14 := hb2.cell 14 rfl; have y15 := hb2.cell 15 rfl
  go_wp2_with (go_at_call 44; refine h1'.mono ?_; clear h1'; rintro e w4 ⟨rfl, hc4⟩)
  go_ret
  exact ⟨rfl, (hcb.trans hW2 (by simp [NoB])).trans hc4 (by simp [NoB])⟩
end Go.Proofs.Ytpjmamobiancdaa
