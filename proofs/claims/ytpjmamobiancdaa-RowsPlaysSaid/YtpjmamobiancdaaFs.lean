/- The reference's 'Same' of a checkpoint of one row with itself. Conditions: at most 2^40 members and locks. -/
import Derived.Test.YtpjmamobiancdaaFm
namespace Go.Proofs.Ytpjmamobiancdaa
open Go.RowKit Go.Maps Go.BigFrame
set_option maxHeartbeats 8000000 in
theorem same_rec (b : Nat) (r : Rw) (mv lv : Value) (w : World) (hat : At w b (cellsR (r, mv, lv)) 32) (hm0 : Sees w cellsI mv r.ms) (hl0 : Sees w cellsL lv r.ls) (hml : r.ms.length ≤ 1099511627776) (hll : r.ls.length ≤ 1099511627776) :
    Calls Try.prog 42 #[recV (.slice (some ⟨b, 0, none⟩) 1 1), recV (.slice (some ⟨b, 0, none⟩) 1 1)] w fun e w' => e = .returned (.bool true) ∧ Chg NoB w w' := by
  have hlists := fun W (hW : Chg NoB w W) => sameLists_any b r mv lv W (hat.chg hW (by simp [NoB])) (hm0.no hW) (hl0.no hW) hml hll
  have hnil := fun W => sameInts_any (.slice none 0 0) (.slice none 0 0) [] [] W (Sees.nil W) (Sees.nil W) (by simp) (by simp)
  have hnil2 := fun W => sameLocks_any (.slice none 0 0) (.slice none 0 0) [] [] W (Sees.nil W) (Sees.nil W) (by simp) (by simp)
  simp only [decide_true] at hnil hnil2
  clear hat hm0 hl0 hml hll
  have hnv := fun W => neqV ⟨#[]⟩ ⟨#[]⟩ false false W
  simp only [beq_self_eq_true, Bool.and_self] at hnv
  unfold recV recC at *
  have hbox := At.new w [.int .i64 8, .int .i64 0, .int .i64 0, .int .i64 0, .string ⟨#[]⟩, .bool false, .string ⟨#[]⟩, .bool false, .string ⟨#[]⟩, .int .i64 0, .slice none 0 0, .slice none 0 0, .slice (some ⟨b, 0, none⟩) 1 1, .slice none 0 0, .slice none 0 0, .slice none 0 0] 71
  have hbox2 := At.new (w.alloc (.cells #[.int .i64 8, .int .i64 0, .int .i64 0, .int .i64 0, .string ⟨#[]⟩, .bool false, .string ⟨#[]⟩, .bool false, .string ⟨#[]⟩, .int .i64 0, .slice none 0 0, .slice none 0 0, .slice (some ⟨b, 0, none⟩) 1 1, .slice none 0 0, .slice none 0 0, .slice none 0 0] 71)) [.int .i64 8, .int .i64 0, .int .i64 0, .int .i64 0, .string ⟨#[]⟩, .bool false, .string ⟨#[]⟩, .bool false, .string ⟨#[]⟩, .int .i64 0, .slice none 0 0, .slice none 0 0, .slice (some ⟨b, 0, none⟩) 1 1, .slice none 0 0, .slice none 0 0, .slice none 0 0] 71
  have hbox1 := hbox.alloc (.cells #[.int .i64 8, .int .i64 0, .int .i64 0, .int .i64 0, .string ⟨#[]⟩, .bool false, .string ⟨#[]⟩, .bool false, .string ⟨#[]⟩, .int .i64 0, .slice none 0 0, .slice none 0 0, .slice (some ⟨b, 0, none⟩) 1 1, .slice none 0 0, .slice none 0 0, .slice none 0 0] 71)
  rw [World.size_alloc] at hbox2
  have hcb := ((Chg.refl NoB w).alloc (.cells #[.int .i64 8, .int .i64 0, .int .i64 0, .int .i64 0, .string ⟨#[]⟩, .bool false, .string ⟨#[]⟩, .bool false, .string ⟨#[]⟩, .int .i64 0, .slice none 0 0, .slice none 0 0, .slice (some ⟨b, 0, none⟩) 1 1, .slice none 0 0, .slice none 0 0, .slice none 0 0] 71)).alloc (.cells #[.int .i64 8, .int .i64 0, .int .i64 0, .int .i64 0, .string ⟨#[]⟩, .bool false, .string ⟨#[]⟩, .bool false, .string ⟨#[]⟩, .int .i64 0, .slice none 0 0, .slice none 0 0, .slice (some ⟨b, 0, none⟩) 1 1, .slice none 0 0, .slice none 0 0, .slice none 0 0] 71)
  clear hbox
  go_enter Try.func42, Try.ntmps42
  go_wp2_with (first
    | (go_at_call 25; refine (hnil _).mono ?_; clear hnil; rintro e w2 ⟨rfl, hc2⟩; have hb1 := hbox1.chg hc2 (by simp [NoB]); have hb2 := hbox2.chg hc2 (by simp [NoB]); have y11 := hb1.cell 11 rfl; have z11 := hb2.cell 11 rfl)
    | (go_at_call 34; refine (hnil2 _).mono ?_; clear hnil2; rintro e w3 ⟨rfl, hc3⟩; have hb1' := hb1.chg hc3 (by simp [NoB]); have hb2' := hb2.chg hc3 (by simp [NoB]); have hl := hlists _ ((hcb.trans hc2 (by simp [NoB])).trans hc3 (by simp [NoB])); have u0 := hb1'.cell 0 rfl; have u1 := hb1'.cell 1 rfl; have u2 := hb1'.cell 2 rfl; have u3 := hb1'.cell 3 rfl; have u4 := hb1'.cell 4 rfl; have u5 := hb1'.cell 5 rfl; have u6 := hb1'.cell 6 rfl; have u7 := hb1'.cell 7 rfl; have u8 := hb1'.cell 8 rfl; have u9 := hb1'.cell 9 rfl; have u10 := hb1'.cell 10 rfl; have u11 := hb1'.cell 11 rfl; have u12 := hb1'.cell 12 rfl; have u13 := hb1'.cell 13 rfl; have u14 := hb1'.cell 14 rfl; have u15 := hb1'.cell 15 rfl; have v0 := hb2'.cell 0 rfl; have v1 := hb2'.cell 1 rfl; have v2 := hb2'.cell 2 rfl; have v3 := hb2'.cell 3 rfl; have v4 := hb2'.cell 4 rfl; have v5 := hb2'.cell 5 rfl; have v6 := hb2'.cell 6 rfl; have v7 := hb2'.cell 7 rfl; have v8 := hb2'.cell 8 rfl; have v9 := hb2'.cell 9 rfl; have v10 := hb2'.cell 10 rfl; have v11 := hb2'.cell 11 rfl; have v12 := hb2'.cell 12 rfl; have v13 := hb2'.cell 13 rfl; have v14 := hb2'.cell 14 rfl; have v15 := hb2'.cell 15 rfl)
    | (go_at_call 62; refine hl.mono ?_; clear hl; rintro e w4 ⟨rfl, hc4⟩))
  go_ret
  exact ⟨rfl, ((hcb.trans hc2 (by simp [NoB])).trans hc3 (by simp [NoB])).trans hc4 (by simp [NoB])⟩
end Go.Proofs.Ytpjmamobiancdaa
