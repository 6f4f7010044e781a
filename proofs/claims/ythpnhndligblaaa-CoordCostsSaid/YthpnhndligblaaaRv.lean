/- Package rec's 'May' of a decision, and package msg's 'May'. Conditions: at most 2^40 members. -/
import Derived.Test.YthpnhndligblaaaRi
namespace Go.Proofs.Ythpnhndligblaaa
open Go.RowKit Go.Maps Go.BigFrame
/-- A decision's record. -/
def recDV (tx : Int) (mv : Value) : Value := .agg #[.int .i64 9, .int .i64 tx, .int .i64 0, .int .i64 0, .string ⟨#[]⟩, .agg #[.bool false, .string ⟨#[]⟩], .agg #[.bool false, .string ⟨#[]⟩], .int .i64 0, mv, .slice none 0 0, .slice none 0 0, .slice none 0 0, .slice none 0 0, .slice none 0 0]
set_option maxHeartbeats 2000000 in
theorem wants_dec (w : World) : Calls Try.prog 73 #[.int .i64 9] w fun e w' => e = .returned (.agg #[.bool true, .bool true, .bool true, .bool true, .bool true, .bool true, .bool false, .bool true, .bool true]) ∧ Chg NoB w w' := by
  go_enter Try.func73, Try.ntmps73
  go_wp2
  exact bodyPost_ret (v := .agg #[.bool true, .bool true, .bool true, .bool true, .bool true, .bool true, .bool false, .bool true, .bool true]) (by simp [results, Try.results73, go_sem]) rfl ⟨rfl, ((Chg.refl _ w).alloc _).alloc _⟩
set_option maxHeartbeats 4000000 in
theorem spare_dec (tx : Int) (ad : Option Addr) (n c : Nat) (w : World) : Calls Try.prog 54 #[.agg #[.int .i64 9, .int .i64 tx, .int .i64 0, .int .i64 0, .string ⟨#[]⟩, .bool false, .string ⟨#[]⟩, .bool false, .string ⟨#[]⟩, .int .i64 0, .slice ad n c, .slice none 0 0, .slice none 0 0, .slice none 0 0, .slice none 0 0, .slice none 0 0]] w fun e w' => e = .returned (.bool false) ∧ Chg NoB w w' := by
  have hw := fun W => wants_dec W
  have hbox := At.new w [.int .i64 9, .int .i64 tx, .int .i64 0, .int .i64 0, .string ⟨#[]⟩, .bool false, .string ⟨#[]⟩, .bool false, .string ⟨#[]⟩, .int .i64 0, .slice ad n c, .slice none 0 0, .slice none 0 0, .slice none 0 0, .slice none 0 0, .slice none 0 0] 39
  go_enter Try.func54, Try.ntmps54
  go_upto_region 1 with (fail)
  go_wp2_with (go_at_call 73; refine (hw _).mono ?_; clear hw; rintro e w2 ⟨rfl, hc2⟩; have hb2 := hbox.chg hc2 (by simp [NoB]); clear hbox; have hlt := hb2.lt; have y0 := hb2.cell 0 rfl; have y2 := hb2.cell 2 rfl; have y3 := hb2.cell 3 rfl; have y4 := hb2.cell 4 rfl; have y5 := hb2.cell 5 rfl; have y6 := hb2.cell 6 rfl; have y7 := hb2.cell 7 rfl; have y8 := hb2.cell 8 rfl; have y9 := hb2.cell 9 rfl; have y11 := hb2.cell 11 rfl; have y12 := hb2.cell 12 rfl; have y13 := hb2.cell 13 rfl; have y14 := hb2.cell 14 rfl; have y15 := hb2.cell 15 rfl; clear hb2)
  go_ret
  exact ⟨rfl, ((((Chg.refl _ w).alloc _).trans hc2 (by simp [NoB])).alloc _).alloc _⟩
theorem rising_nilL (w : World) : Calls Try.prog 86 #[.slice none 0 0, .int .i64 64, .func (.func 87) #[] #[], .func (.func 88) #[] #[]] w fun e w' => e = .returned (.bool true) ∧ Chg NoB w w' := by
  go_enter Try.func86, Try.ntmps86
  go_wp2
  go_loopw [17] (fun i wr => i = .int .i64 0 ∧ Chg NoB w wr) (fun _ _ => 0)
  case atStart => exact ⟨rfl, Chg.refl _ w⟩
  case round =>
    obtain ⟨rfl, hcw⟩ := hrel
    go_wp2
    go_ret
    exact ⟨rfl, hcw⟩
theorem locks_nil (w : World) : Calls Try.prog 61 #[.slice none 0 0] w fun e w' => e = .returned (.bool true) ∧ Chg NoB w w' := by
  have h := fun W => rising_nilL W
  go_enter Try.func61, Try.ntmps61
  go_wp2_with (go_at_call 86; refine (h _).mono ?_; clear h; rintro e w2 ⟨rfl, hc2⟩)
  go_ret
  exact ⟨rfl, hc2⟩
theorem members_any (v : Value) (l : List Int) (w : World) (hv : Sees w cellsI v l) (hl : l.length ≤ 1099511627776) :
    Calls Try.prog 60 #[v] w fun e w' => e = .returned (.bool (membersB l)) ∧ Chg NoB w w' := by
  have h := fun W hW => rising_int v l W (hv.no hW) hl
  go_enter Try.func60, Try.ntmps60
  go_wp2_with (go_at_call 83; refine (h _ (Chg.refl _ _)).mono ?_; clear h; rintro e w2 ⟨rfl, hc2⟩)
  go_ret
  exact ⟨rfl, hc2⟩
def decB (tx : Int) (ms : List Int) : Bool := seqB tx 1 && membersB ms
set_option maxHeartbeats 4000000 in
theorem may_dec (tx : Int) (v : Value) (ms : List Int) (w : World) (hv : Sees w cellsI v ms) (hl : ms.length ≤ 1099511627776) :
    Calls Try.prog 44 #[.agg #[.int .i64 9, .int .i64 tx, .int .i64 0, .int .i64 0, .string ⟨#[]⟩, .bool false, .string ⟨#[]⟩, .bool false, .string ⟨#[]⟩, .int .i64 0, v, .slice none 0 0, .slice none 0 0, .slice none 0 0, .slice none 0 0, .slice none 0 0]] w fun e w' => e = .returned (.bool (decB tx ms)) ∧ Chg NoB w w' := by
  obtain ⟨ao, c, rfl⟩ := hv.shape
  have h1 := fun W (hW : Chg NoB w W) => members_any _ ms W (hv.no hW) hl
  have h2 := fun W => spare_dec tx ao ms.length c W
  have h3 := fun W => kind_any 9 W (by omega) (by omega)
  have h4 := fun W => seq_any tx 1 W
  have h5 := fun W => seq_any 0 0 W
  have h6 := fun W => node_any 0 W
  have h7 := fun W => locks_nil W
  rw [show seqB 0 0 = true by decide] at h5
  rw [show nodeB 0 = true by decide] at h6
  unfold decB
  generalize membersB ms = B at h1 ⊢
  generalize seqB tx 1 = S at h4 ⊢
  clear hv hl
  have hbox := At.new w [.int .i64 9, .int .i64 tx, .int .i64 0, .int .i64 0, .string ⟨#[]⟩, .bool false, .string ⟨#[]⟩, .bool false, .string ⟨#[]⟩, .int .i64 0, .slice ao ms.length c, .slice none 0 0, .slice none 0 0, .slice none 0 0, .slice none 0 0, .slice none 0 0] 39
  have hcb := (Chg.refl NoB w).alloc (.cells #[.int .i64 9, .int .i64 tx, .int .i64 0, .int .i64 0, .string ⟨#[]⟩, .bool false, .string ⟨#[]⟩, .bool false, .string ⟨#[]⟩, .int .i64 0, .slice ao ms.length c, .slice none 0 0, .slice none 0 0, .slice none 0 0, .slice none 0 0, .slice none 0 0] 39)
  cases S
  all_goals cases B
  all_goals go_enter Try.func44, Try.ntmps44
  all_goals go_wp2_with (first
    | (go_at_call 53; refine (h3 _).mono ?_; clear h3; rintro e w2 ⟨rfl, rfl⟩)
    | (go_at_call 54; refine (h2 _).mono ?_; clear h2; rintro e w3 ⟨rfl, hc3⟩; have hcw := hcb.trans hc3 (by simp [NoB]); have h1' := h1 _ hcw; clear h1; have hb3 := hbox.chg hc3 (by simp [NoB]); have y0 := hb3.cell 0 rfl; have y1 := hb3.cell 1 rfl; have y2 := hb3.cell 2 rfl; have y3 := hb3.cell 3 rfl; have y9 := hb3.cell 9 rfl; have y10 := hb3.cell 10 rfl; have y11 := hb3.cell 11 rfl)
    | (go_at_call 58; with_reducible refine (h4 _).mono ?_; clear h4; rintro e w4 ⟨rfl, rfl⟩)
    | (go_at_call 58; with_reducible refine (h5 _).mono ?_; rintro e w5 ⟨rfl, rfl⟩)
    | (go_at_call 59; refine (h6 _).mono ?_; clear h6; rintro e w6 ⟨rfl, rfl⟩)
    | (go_at_call 60; refine h1'.mono ?_; clear h1'; rintro e w7 ⟨rfl, hc7⟩; have hb7 := hb3.chg hc7 (by simp [NoB]); have z11 := hb7.cell 11 rfl)
    | (go_at_call 61; refine (h7 _).mono ?_; clear h7; rintro e w8 ⟨rfl, hc8⟩))
  all_goals go_ret
  · exact ⟨rfl, hcw⟩
  · exact ⟨rfl, hcw⟩
  · exact ⟨rfl, hcw.trans hc7 (by simp [NoB])⟩
  · exact ⟨rfl, (hcw.trans hc7 (by simp [NoB])).trans hc8 (by simp [NoB])⟩
end Go.Proofs.Ythpnhndligblaaa
