/- The reference's 'only' at a checkpoint. Conditions: none. -/
import Derived.Test.YtpjmamobiancdaaSr
import Derived.Test.YtpjmamobiancdaaRc
namespace Go.Proofs.Ytpjmamobiancdaa
open Go.RowKit Go.Maps Go.BigFrame
set_option maxHeartbeats 4000000 in
theorem only_any (b : Nat) (w : World) : Calls Try.prog 43 #[recV (.slice (some ⟨b, 0, none⟩) 1 1)] w fun e w' => e = .returned (recV (.slice (some ⟨b, 0, none⟩) 1 1)) ∧ Chg NoB w w' := by
  unfold recV recC
  go_enter Try.func43, Try.ntmps43
  go_wp2
  exact bodyPost_ret (v := .agg #[.int .i64 8, .int .i64 0, .int .i64 0, .int .i64 0, .string ⟨#[]⟩, .bool false, .string ⟨#[]⟩, .bool false, .string ⟨#[]⟩, .int .i64 0, .slice none 0 0, .slice none 0 0, .slice (some ⟨b, 0, none⟩) 1 1, .slice none 0 0, .slice none 0 0, .slice none 0 0]) (by simp [results, Try.results43, go_sem]) rfl ⟨rfl, (((Chg.refl _ w).alloc _).alloc _).alloc _⟩
theorem neqV (s t : ByteArray) (x y : Bool) (w : World) : (binOp .eql 67 (.agg #[.bool x, .string s]) (.agg #[.bool y, .string t])).run Try.prog w = .ok (.bool ((x == y) && (s.toList == t.toList))) w := by
  have hS : Try.prog.underlying 67 = some (.struct (Try.prog.fieldsOf 67)) := by kernel_rfl
  have hp : Try.prog.stoodInHeld 67 = false := by kernel_rfl
  rw [run_eql_struct, show (10000 : Nat) = 9999 + 1 from rfl, run_equalIn_agg w 9999 67 _ _ hS hp]
  simp only [Program.fieldsOf, Try.underlying67]
  have u3 := Try.isAgg9
  have a3 := Try.isAgg4
  have z3 := Try.sizeOf9
  have z4 := Try.sizeOf4
  go_simp
  by_cases h1 : x = y <;> by_cases h2 : s.toList = t.toList <;> simp [h1, h2]
end Go.Proofs.Ytpjmamobiancdaa
