/- Package rec's 'May' of a checkpoint of one row. Conditions: at most 2^40 members and locks. -/
import Derived.Test.YtpjmamobiancdaaRb
namespace Go.Proofs.Ytpjmamobiancdaa
open Go.RowKit Go.Maps Go.BigFrame
/-- A checkpoint's record of the rows v. -/
def recC (v : Value) : List Value := [.int .i64 8, .int .i64 0, .int .i64 0, .int .i64 0, .string ⟨#[]⟩, .bool false, .string ⟨#[]⟩, .bool false, .string ⟨#[]⟩, .int .i64 0, .slice none 0 0, .slice none 0 0, v, .slice none 0 0, .slice none 0 0, .slice none 0 0]
def recV (v : Value) : Value := .agg (recC v).toArray
set_option maxHeartbeats 2000000 in
theorem wants_any (w : World) : Calls Try.prog 64 #[.int .i64 8] w fun e w' => e = .returned (.agg #[.bool true, .bool true, .bool true, .bool true, .bool true, .bool true, .bool true, .bool true, .bool false]) ∧ Chg NoB w w' := by
  go_enter Try.func64, Try.ntmps64
  go_wp2
  exact bodyPost_ret (v := .agg #[.bool true, .bool true, .bool true, .bool true, .bool true, .bool true, .bool true, .bool true, .bool false]) (by simp [results, Try.results64, go_sem]) rfl ⟨rfl, ((Chg.refl _ w).alloc _).alloc _⟩
set_option maxHeartbeats 4000000 in
theorem spare_any (ad : Option Addr) (n c : Nat) (w : World) : Calls Try.prog 51 #[recV (.slice ad n c)] w fun e w' => e = .returned (.bool false) ∧ Chg NoB w w' := by
  have hw := fun W => wants_any W
  unfold recV recC
  have hbox := At.new w [.int .i64 8, .int .i64 0, .int .i64 0, .int .i64 0, .string ⟨#[]⟩, .bool false, .string ⟨#[]⟩, .bool false, .string ⟨#[]⟩, .int .i64 0, .slice none 0 0, .slice none 0 0, .slice ad n c, .slice none 0 0, .slice none 0 0, .slice none 0 0] 71
  go_enter Try.func51, Try.ntmps51
  go_upto_region 1 with (fail)
  go_wp2_with (go_at_call 64; refine (hw _).mono ?_; clear hw; rintro e w2 ⟨rfl, hc2⟩; have hb2 := hbox.chg hc2 (by simp [NoB]); clear hbox; have hlt := hb2.lt; have y0 := hb2.cell 0 rfl; have y2 := hb2.cell 2 rfl; have y3 := hb2.cell 3 rfl; have y4 := hb2.cell 4 rfl; have y5 := hb2.cell 5 rfl; have y6 := hb2.cell 6 rfl; have y7 := hb2.cell 7 rfl; have y8 := hb2.cell 8 rfl; have y9 := hb2.cell 9 rfl; have y10 := hb2.cell 10 rfl; have y11 := hb2.cell 11 rfl; clear hb2)
  go_ret
  exact ⟨rfl, ((((Chg.refl _ w).alloc _).trans hc2 (by simp [NoB])).alloc _).alloc _⟩
theorem rising_nil68 (w : World) : Calls Try.prog 68 #[.slice none 0 0, .int .i64 64, .func (.func 69) #[] #[], .func (.func 70) #[] #[]] w fun e w' => e = .returned (.bool true) ∧ Chg NoB w w' := by
  go_enter Try.func68, Try.ntmps68
  go_wp2
  go_loopw [17] (fun i wr => i = .int .i64 0 ∧ Chg NoB w wr) (fun _ _ => 0)
  case atStart => exact ⟨rfl, Chg.refl _ w⟩
  case round =>
    obtain ⟨rfl, hcw⟩ := hrel
    go_wp2
    go_ret
    exact ⟨rfl, hcw⟩
theorem rising_nil71 (w : World) : Calls Try.prog 71 #[.slice none 0 0, .int .i64 64, .func (.func 72) #[] #[], .func (.func 73) #[] #[]] w fun e w' => e = .returned (.bool true) ∧ Chg NoB w w' := by
  go_enter Try.func71, Try.ntmps71
  go_wp2
  go_loopw [17] (fun i wr => i = .int .i64 0 ∧ Chg NoB w wr) (fun _ _ => 0)
  case atStart => exact ⟨rfl, Chg.refl _ w⟩
  case round =>
    obtain ⟨rfl, hcw⟩ := hrel
    go_wp2
    go_ret
    exact ⟨rfl, hcw⟩
theorem rising_nil74 (w : World) : Calls Try.prog 74 #[.slice none 0 0, .int .i64 256, .func (.func 75) #[] #[], .func (.func 76) #[] #[]] w fun e w' => e = .returned (.bool true) ∧ Chg NoB w w' := by
  go_enter Try.func74, Try.ntmps74
  go_wp2
  go_loopw [17] (fun i wr => i = .int .i64 0 ∧ Chg NoB w wr) (fun _ _ => 0)
  case atStart => exact ⟨rfl, Chg.refl _ w⟩
  case round =>
    obtain ⟨rfl, hcw⟩ := hrel
    go_wp2
    go_ret
    exact ⟨rfl, hcw⟩
set_option maxHeartbeats 4000000 in
theorem check_any (b : Nat) (r : Rw) (mv lv : Value) (w : World) (hat : At w b (cellsR (r, mv, lv)) 32) (hm0 : Sees w cellsI mv r.ms) (hl0 : Sees w cellsL lv r.ls) (hml : r.ms.length ≤ 1099511627776) (hll : r.ls.length ≤ 1099511627776) :
    Calls Try.prog 52 #[recV (.slice (some ⟨b, 0, none⟩) 1 1)] w fun e w' => e = .returned (.bool (rowB r)) ∧ Chg NoB w w' := by
  have h1 := fun W (hW : Chg NoB w W) => rising_row b r mv lv W (hat.chg hW (by simp [NoB])) (hm0.no hW) (hl0.no hW) hml hll
  have h2 := fun W => rising_nil68 W
  have h3 := fun W => rising_nil71 W
  have h4 := fun W => rising_nil74 W
  generalize rowB r = B at h1 ⊢
  clear hat hm0 hl0 hml hll
  unfold recV recC
  have hbox := At.new w [.int .i64 8, .int .i64 0, .int .i64 0, .int .i64 0, .string ⟨#[]⟩, .bool false, .string ⟨#[]⟩, .bool false, .string ⟨#[]⟩, .int .i64 0, .slice none 0 0, .slice none 0 0, .slice (some ⟨b, 0, none⟩) 1 1, .slice none 0 0, .slice none 0 0, .slice none 0 0] 71
  have hcb := (Chg.refl NoB w).alloc (.cells #[.int .i64 8, .int .i64 0, .int .i64 0, .int .i64 0, .string ⟨#[]⟩, .bool false, .string ⟨#[]⟩, .bool false, .string ⟨#[]⟩, .int .i64 0, .slice none 0 0, .slice none 0 0, .slice (some ⟨b, 0, none⟩) 1 1, .slice none 0 0, .slice none 0 0, .slice none 0 0] 71)
  have h1' := h1 _ hcb
  clear h1
  cases B with
  | false =>
    go_enter Try.func52, Try.ntmps52
    go_wp2_with (go_at_call 65; refine h1'.mono ?_; clear h1'; rintro e w2 ⟨rfl, hc2⟩)
    go_ret
    exact ⟨rfl, hcb.trans hc2 (by simp [NoB])⟩
  | true =>
    go_enter Try.func52, Try.ntmps52
    go_wp2_with (first
      | (go_at_call 65; refine h1'.mono ?_; clear h1'; rintro e w2 ⟨rfl, hc2⟩; have hb2 := hbox.chg hc2 (by simp [NoB]); have y2 := hb2.cell 13 rfl)
      | (go_at_call 68; refine (h2 _).mono ?_; clear h2; rintro e w3 ⟨rfl, hc3⟩; have hb3 := hb2.chg hc3 (by simp [NoB]); have y3 := hb3.cell 14 rfl)
      | (go_at_call 71; refine (h3 _).mono ?_; clear h3; rintro e w4 ⟨rfl, hc4⟩; have hb4 := hb3.chg hc4 (by simp [NoB]); have y4 := hb4.cell 15 rfl)
      | (go_at_call 74; refine (h4 _).mono ?_; clear h4; rintro e w5 ⟨rfl, hc5⟩))
    go_ret
    exact ⟨rfl, (((hcb.trans hc2 (by simp [NoB])).trans hc3 (by simp [NoB])).trans hc4 (by simp [NoB])).trans hc5 (by simp [NoB])⟩
set_option maxHeartbeats 4000000 in
theorem may_rec (b : Nat) (r : Rw) (mv lv : Value) (w : World) (hat : At w b (cellsR (r, mv, lv)) 32) (hm0 : Sees w cellsI mv r.ms) (hl0 : Sees w cellsL lv r.ls) (hml : r.ms.length ≤ 1099511627776) (hll : r.ls.length ≤ 1099511627776) :
    Calls Try.prog 36 #[recV (.slice (some ⟨b, 0, none⟩) 1 1)] w fun e w' => e = .returned (.bool (rowB r)) ∧ Chg NoB w w' := by
  have h1 := fun W (hW : Chg NoB w W) => check_any b r mv lv W (hat.chg hW (by simp [NoB])) (hm0.no hW) (hl0.no hW) hml hll
  have h2 := fun W => spare_any (some ⟨b, 0, none⟩) 1 1 W
  have h3 := fun W => kind_any 8 W (by omega) (by omega)
  generalize rowB r = B at h1 ⊢
  clear hat hm0 hl0 hml hll
  unfold recV recC at *
  have hbox := At.new w [.int .i64 8, .int .i64 0, .int .i64 0, .int .i64 0, .string ⟨#[]⟩, .bool false, .string ⟨#[]⟩, .bool false, .string ⟨#[]⟩, .int .i64 0, .slice none 0 0, .slice none 0 0, .slice (some ⟨b, 0, none⟩) 1 1, .slice none 0 0, .slice none 0 0, .slice none 0 0] 71
  have hcb := (Chg.refl NoB w).alloc (.cells #[.int .i64 8, .int .i64 0, .int .i64 0, .int .i64 0, .string ⟨#[]⟩, .bool false, .string ⟨#[]⟩, .bool false, .string ⟨#[]⟩, .int .i64 0, .slice none 0 0, .slice none 0 0, .slice (some ⟨b, 0, none⟩) 1 1, .slice none 0 0, .slice none 0 0, .slice none 0 0] 71)
  go_enter Try.func36, Try.ntmps36
  go_wp2_with (first
    | (go_at_call 50; refine (h3 _).mono ?_; clear h3; rintro e w2 ⟨rfl, rfl⟩)
    | (go_at_call 51; refine (h2 _).mono ?_; clear h2; rintro e w3 ⟨rfl, hc3⟩; have h1' := h1 _ (hcb.trans hc3 (by simp [NoB])); have hb3 := hbox.chg hc3 (by simp [NoB]); have y0 := hb3.cell 0 rfl; have y1 := hb3.cell 1 rfl; have y2 := hb3.cell 2 rfl; have y3 := hb3.cell 3 rfl; have y4 := hb3.cell 4 rfl; have y5 := hb3.cell 5 rfl; have y6 := hb3.cell 6 rfl; have y7 := hb3.cell 7 rfl; have y8 := hb3.cell 8 rfl; have y9 := hb3.cell 9 rfl; have y10 := hb3.cell 10 rfl; have y11 := hb3.cell 11 rfl; have y12 := hb3.cell 12 rfl; have y13 := hb3.cell 13 rfl; have y14 := hb3.cell 14 rfl; have y15 := hb3.cell 15 rfl)
    | (go_at_call 52; refine h1'.mono ?_; clear h1'; rintro e w4 ⟨rfl, hc4⟩))
  go_ret
  exact ⟨rfl, (hcb.trans hc3 (by simp [NoB])).trans hc4 (by simp [NoB])⟩
end Go.Proofs.Ytpjmamobiancdaa
