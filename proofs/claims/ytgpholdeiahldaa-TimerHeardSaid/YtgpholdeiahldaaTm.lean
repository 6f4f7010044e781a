/- What the timer's own functions do to memory, said of a map as a list of pairs. Conditions: integers within int. -/
import Derived.Test.YtgpholdeiahldaaRows
import Derived.Test.YtgpholdeiahldaaBase
namespace Go.Proofs.Ytgpholdeiahldaa
open Go.RowKit Go.Maps

abbrev Key := Int × Int
def encK (p : Key) : Value := .agg #[.int .i64 p.1, .int .i64 p.2]
structure Alarm where
  tx : Int
  role : Int
  at_ : Int
  tries : Int
  deriving DecidableEq
def encA (a : Alarm) : Value := .agg #[.int .i64 a.tx, .int .i64 a.role, .int .i64 a.at_, .int .i64 a.tries]
theorem encK_inj (x y : Key) (h : encK x = encK y) : x = y := by
  obtain ⟨a, b⟩ := x
  obtain ⟨c, d⟩ := y
  simpa [encK] using h
theorem laid : laidOutB Try.prog = true := by kernel_rfl
theorem law54 : Keyed Try.prog 54 := Keyed.of_law (deep_law_laid laid (m := 2) (by omega) (of_decide_eq_true (by kernel_rfl)) (by kernel_rfl) (by kernel_rfl))
def I64 (n : Int) : Prop := -9223372036854775808 ≤ n ∧ n ≤ 9223372036854775807
theorem I64.wf {n : Int} (h : I64 n) : (Lit.int .i64 n).wf = true := WalkArith.wf_i64 h
theorem key_lit {p : Key} (h1 : I64 p.1) (h2 : I64 p.2) : ∃ kl, keyOf Try.prog 54 (encK p) = some kl := by
  have hkt : Try.prog.keyType 54 = true := by kernel_rfl
  have hc54 : Try.prog.cellsOf 54 = 2 := by kernel_rfl
  have hc3 : Try.prog.cellsOf 3 = 1 := by kernel_rfl
  obtain ⟨m, hm⟩ : ∃ m, Try.prog.types.size + 1 = m + 1 + 1 := ⟨Try.prog.types.size - 1, by have : 0 < Try.prog.types.size := of_decide_eq_true (by kernel_rfl); omega⟩
  have w1 := h1.wf
  have w2 := h2.wf
  unfold keyOf
  simp only [Try.underlying54, hkt, hm, encK]
  simp [Value.formed, Try.underlying54, hc54, Program.keyLits, Try.underlying3, hc3, w1, w2, Value.cells, List.range_succ]
theorem zero34 (w : World) : (zeroValue 34).run Try.prog w = .ok (encA ⟨0, 0, 0, 0⟩) w := by kernel_rfl
/-- The timer's map. -/
abbrev TMap := MapIs Try.prog 54 encK encA

/-- k doublings of d, each only below 64. -/
def dbl : Nat → Int → Int
  | 0, d => d
  | k + 1, d => if d < 64 then dbl k (2 * d) else d
theorem dbl_stop (k : Nat) (d : Int) (h : 64 ≤ d) : dbl k d = d := by cases k <;> simp [dbl]; omega
def delayI (n : Int) : Int := dbl n.toNat 4
def Pow (x : Int) : Prop := x = 4 ∨ x = 8 ∨ x = 16 ∨ x = 32 ∨ x = 64
theorem Pow.bd {x : Int} (h : Pow x) : 4 ≤ x ∧ x ≤ 64 := by unfold Pow at h; omega
theorem Pow.dbl {x : Int} (h : Pow x) (h2 : x < 64) : Pow (2 * x) := by unfold Pow at *; omega
theorem dbl_step {k : Nat} {n x : Int} (hk : (k : Int) < n) (hx : x < 64) (h : dbl (n.toNat - k) x = delayI n) : dbl (n.toNat - (k + 1)) (2 * x) = delayI n := by
  rw [← h]
  obtain ⟨m, hm⟩ : ∃ m, n.toNat - k = m + 1 := ⟨n.toNat - k - 1, by omega⟩
  rw [hm, show n.toNat - (k + 1) = m from by omega, dbl, if_pos hx]
theorem delay_any (n : Int) (w : World) (hn : n ≤ 9223372036854775807) :
    Calls Try.prog 8 #[.int .i64 n] w fun e w' => e = .returned (.int .i64 (delayI n)) ∧ w' = w := by
  by_cases h0 : 0 ≤ n
  · go_enter Try.func8, Try.ntmps8
    go_wp2
    go_step3
    go_wp2
    go_step3
    go_wp2
    go_loop [3, 6] (fun d i => ∃ (k : Nat) (x : Int), i = .int .i64 k ∧ d = .int .i64 x ∧ (k : Int) ≤ n ∧ Pow x ∧ dbl (n.toNat - k) x = delayI n) (fun _ i => n.toNat - (intOf i).toNat)
    case atStart => exact ⟨0, 4, rfl, rfl, by omega, by simp [Pow], by simp [delayI]⟩
    case round =>
      obtain ⟨k, x, rfl, rfl, hk, hp, hd⟩ := hrel
      have hb := hp.bd
      have HD : Hid (dbl (n.toNat - k) x = delayI n) := hd
      clear hd
      by_cases hlt : (k : Int) < n
      · by_cases hx : x < 64
        · go_wp2
          go_round
          case rel => exact ⟨k + 1, 2 * x, by go_num, by rw [Int.mul_comm], by omega, hp.dbl hx, dbl_step hlt hx HD.out⟩
          case measure => simp [intOf]; omega
        · have hs := dbl_stop (n.toNat - k) x (by omega)
          have hres : delayI n = x := by rw [← HD.out, hs]
          clear hs
          have HR := Lib.hid hres
          clear hres
          go_wp2
          go_ret
          exact ⟨by rw [HR.out]; rfl, rfl⟩
      · have hres : delayI n = x := by rw [← HD.out, show n.toNat - k = 0 from by omega, dbl]
        have HR := Lib.hid hres
        clear hres
        go_wp2
        go_ret
        exact ⟨by rw [HR.out]; rfl, rfl⟩
  · have hres : delayI n = 4 := by unfold delayI; rw [show n.toNat = 0 from by omega, dbl]
    have HR := Lib.hid hres
    clear hres
    go_enter Try.func8, Try.ntmps8
    go_wp2
    go_step3
    go_wp2
    go_step3
    go_wp2
    refine wp_loop_rounds 1 ?_
    rw [rounds_succ]
    go_wp2
    rw [Exit.noGoto_ret]
    go_ret
    exact ⟨by rw [HR.out]; rfl, rfl⟩

/-- A timer table stands behind the pointer: its field leads to the map. -/
def TAt (w : World) (bt bm : Nat) (l : List (Key × Alarm)) : Prop := At w bt [.map (some bm)] 52 ∧ TMap w bm l

theorem new_any (w : World) : Calls Try.prog 11 #[] w fun e w' => e = .returned (.pointer (some ⟨w.heap.size + 1, 0, none⟩)) ∧ TAt w' (w.heap.size + 1) w.heap.size [] ∧ Chg NoB w w' := by
  have hmm := @run_makeMap Try.prog
  go_enter Try.func11, Try.ntmps11
  go_wp2
  go_ret
  refine ⟨rfl, ⟨?_, (MapIs.made w).alloc _⟩, ((Chg.refl _ w).alloc _).alloc _⟩
  have := At.new (w.alloc (.map #[] 0)) [.map (some w.heap.size)] 52
  simpa using this
def laterI (now d : Int) : Int := if 1099511627776 ≤ now then 1099511627776 else min (now + d) 1099511627776
theorem later_any (now d : Int) (w : World) (h0 : I64 now) (hd : 0 ≤ d) (hd2 : d ≤ 64) : Calls Try.prog 24 #[.int .i64 now, .int .i64 d] w fun e w' => e = .returned (.int .i64 (laterI now d)) ∧ w' = w := by
  unfold I64 at h0
  go_enter Try.func24, Try.ntmps24
  go_wp2
  all_goals (go_ret; exact ⟨ret_i (by unfold laterI; omega), rfl⟩)
theorem delayI_pow (n : Int) : Pow (delayI n) := by
  unfold delayI
  have : ∀ k x, Pow x → Pow (dbl k x) := by
    intro k
    induction k with
    | zero => exact fun x h => h
    | succ k ih => intro x h; unfold dbl; split; exact ih _ (h.dbl ‹_›); exact h
  exact this _ _ (by simp [Pow])
end Go.Proofs.Ytgpholdeiahldaa
