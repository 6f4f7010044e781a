/- Package msg's tests; whose a transaction is. Conditions: at most 2^40 members. -/
import Derived.Test.YthpnhndligblaaaRv
namespace Go.Proofs.Ythpnhndligblaaa
open Go.RowKit Go.Maps Go.BigFrame
/-- A message. -/
structure Mg where
  kind : Int
  frm : Int
  dst : Int
  tx : Int
  ms : List Int
def cellsM (x : Mg × Value) : List Value := [.int .i64 x.1.kind, .int .i64 x.1.frm, .int .i64 x.1.dst, .int .i64 x.1.tx, x.2]
theorem cellsM_len (x : Mg × Value) : (cellsM x).length = 5 := rfl
def msgV (m : Mg) (mv : Value) : Value := .agg #[.int .i64 m.kind, .int .i64 m.frm, .int .i64 m.dst, .int .i64 m.tx, mv]
def mayM (m : Mg) : Bool := !((m.kind != 1) && decide (0 < (m.ms.length : Int))) && nodeB m.frm && nodeB m.dst && decide (1 ≤ m.kind) && decide (m.kind ≤ 10) && decB m.tx m.ms
theorem msgnode_any (n : Int) (w : World) : Calls Try.prog 43 #[.int .i64 n] w fun e w' => e = .returned (.bool (nodeB n)) ∧ w' = w := by
  unfold nodeB
  go_enter Try.func43, Try.ntmps43
  go_wp2
  all_goals (go_ret; refine ⟨ret_b ?_, rfl⟩; first | rfl | (rw [Bool.eq_iff_iff]; simp; done) | (rw [Bool.eq_iff_iff]; simp; omega))
set_option maxHeartbeats 4000000 in
theorem msgmay_any (m : Mg) (mv : Value) (w : World) (hv : Sees w cellsI mv m.ms) (hl : m.ms.length ≤ 1099511627776) :
    Calls Try.prog 31 #[msgV m mv] w fun e w' => e = .returned (.bool (mayM m)) ∧ Chg NoB w w' := by
  obtain ⟨ao, c, rfl⟩ := hv.shape
  obtain ⟨kind, frm, dst, tx, ms⟩ := m
  have HR := Lib.hid (show mayM ⟨kind, frm, dst, tx, ms⟩ = (!((kind != 1) && decide (0 < (ms.length : Int))) && nodeB frm && nodeB dst && decide (1 ≤ kind) && decide (kind ≤ 10) && decB tx ms) from rfl)
  have hd := fun W (hW : Chg NoB w W) => may_dec tx _ ms W (hv.no hW) hl
  have hf := fun W => msgnode_any frm W
  have ht := fun W => msgnode_any dst W
  generalize mayM ⟨kind, frm, dst, tx, ms⟩ = R at HR ⊢
  generalize decB tx ms = G at HR hd
  generalize nodeB frm = C at HR hf
  generalize nodeB dst = D at HR ht
  unfold msgV
  simp only
  simp only at hv hl hd
  clear hv hl
  generalize ms.length = n at HR hd ⊢
  have hcb := (Chg.refl NoB w).alloc (.cells #[.int .i64 kind, .int .i64 frm, .int .i64 dst, .int .i64 tx, .slice ao n c] 46)
  have hd' := hd _ hcb
  clear hd
  cases hA : (kind != 1) with
  | false =>
    cases C with
    | false =>
      go_enter Try.func31, Try.ntmps31
      go_wp2_with (first
        | (go_at_call 43; with_reducible refine (hf _).mono ?_; clear hf; rintro e w2 ⟨rfl, rfl⟩)
        | (go_at_call 43; with_reducible refine (ht _).mono ?_; clear ht; rintro e w3 ⟨rfl, rfl⟩)
        | (go_at_call 44; refine hd'.mono ?_; clear hd'; rintro e w4 ⟨rfl, hc4⟩))
      go_ret
      exact ⟨ret_b (by rw [HR.out]; simp [hA]), hcb⟩
    | true =>
      cases D with
      | false =>
        go_enter Try.func31, Try.ntmps31
        go_wp2_with (first
          | (go_at_call 43; with_reducible refine (hf _).mono ?_; clear hf; rintro e w2 ⟨rfl, rfl⟩)
          | (go_at_call 43; with_reducible refine (ht _).mono ?_; clear ht; rintro e w3 ⟨rfl, rfl⟩)
          | (go_at_call 44; refine hd'.mono ?_; clear hd'; rintro e w4 ⟨rfl, hc4⟩))
        go_ret
        exact ⟨ret_b (by rw [HR.out]; simp [hA]), hcb⟩
      | true =>
        cases hE : decide (1 ≤ kind) with
        | false =>
          go_enter Try.func31, Try.ntmps31
          go_wp2_with (first
            | (go_at_call 43; with_reducible refine (hf _).mono ?_; clear hf; rintro e w2 ⟨rfl, rfl⟩)
            | (go_at_call 43; with_reducible refine (ht _).mono ?_; clear ht; rintro e w3 ⟨rfl, rfl⟩)
            | (go_at_call 44; refine hd'.mono ?_; clear hd'; rintro e w4 ⟨rfl, hc4⟩))
          go_ret
          exact ⟨ret_b (by rw [HR.out]; simp [hA, hE]), hcb⟩
        | true =>
          cases hF : decide (kind ≤ 10) with
          | false =>
            go_enter Try.func31, Try.ntmps31
            go_wp2_with (first
              | (go_at_call 43; with_reducible refine (hf _).mono ?_; clear hf; rintro e w2 ⟨rfl, rfl⟩)
              | (go_at_call 43; with_reducible refine (ht _).mono ?_; clear ht; rintro e w3 ⟨rfl, rfl⟩)
              | (go_at_call 44; refine hd'.mono ?_; clear hd'; rintro e w4 ⟨rfl, hc4⟩))
            go_ret
            exact ⟨ret_b (by rw [HR.out]; simp [hA, hE, hF]), hcb⟩
          | true =>
            go_enter Try.func31, Try.ntmps31
            go_wp2_with (first
              | (go_at_call 43; with_reducible refine (hf _).mono ?_; clear hf; rintro e w2 ⟨rfl, rfl⟩)
              | (go_at_call 43; with_reducible refine (ht _).mono ?_; clear ht; rintro e w3 ⟨rfl, rfl⟩)
              | (go_at_call 44; refine hd'.mono ?_; clear hd'; rintro e w4 ⟨rfl, hc4⟩))
            go_ret
            exact ⟨ret_b (by rw [HR.out]; simp [hA, hE, hF]), hcb.trans hc4 (by simp [NoB])⟩
  | true =>
    by_cases hB : 0 < n
    ·
      go_enter Try.func31, Try.ntmps31
      go_wp2_with (first
        | (go_at_call 43; with_reducible refine (hf _).mono ?_; clear hf; rintro e w2 ⟨rfl, rfl⟩)
        | (go_at_call 43; with_reducible refine (ht _).mono ?_; clear ht; rintro e w3 ⟨rfl, rfl⟩)
        | (go_at_call 44; refine hd'.mono ?_; clear hd'; rintro e w4 ⟨rfl, hc4⟩))
      go_ret
      exact ⟨ret_b (by rw [HR.out]; simp [hA, hB]), hcb⟩
    ·
      cases C with
      | false =>
        go_enter Try.func31, Try.ntmps31
        go_wp2_with (first
          | (go_at_call 43; with_reducible refine (hf _).mono ?_; clear hf; rintro e w2 ⟨rfl, rfl⟩)
          | (go_at_call 43; with_reducible refine (ht _).mono ?_; clear ht; rintro e w3 ⟨rfl, rfl⟩)
          | (go_at_call 44; refine hd'.mono ?_; clear hd'; rintro e w4 ⟨rfl, hc4⟩))
        go_ret
        exact ⟨ret_b (by rw [HR.out]; simp [hA, hB]), hcb⟩
      | true =>
        cases D with
        | false =>
          go_enter Try.func31, Try.ntmps31
          go_wp2_with (first
            | (go_at_call 43; with_reducible refine (hf _).mono ?_; clear hf; rintro e w2 ⟨rfl, rfl⟩)
            | (go_at_call 43; with_reducible refine (ht _).mono ?_; clear ht; rintro e w3 ⟨rfl, rfl⟩)
            | (go_at_call 44; refine hd'.mono ?_; clear hd'; rintro e w4 ⟨rfl, hc4⟩))
          go_ret
          exact ⟨ret_b (by rw [HR.out]; simp [hA, hB]), hcb⟩
        | true =>
          cases hE : decide (1 ≤ kind) with
          | false =>
            go_enter Try.func31, Try.ntmps31
            go_wp2_with (first
              | (go_at_call 43; with_reducible refine (hf _).mono ?_; clear hf; rintro e w2 ⟨rfl, rfl⟩)
              | (go_at_call 43; with_reducible refine (ht _).mono ?_; clear ht; rintro e w3 ⟨rfl, rfl⟩)
              | (go_at_call 44; refine hd'.mono ?_; clear hd'; rintro e w4 ⟨rfl, hc4⟩))
            go_ret
            exact ⟨ret_b (by rw [HR.out]; simp [hA, hB, hE]), hcb⟩
          | true =>
            cases hF : decide (kind ≤ 10) with
            | false =>
              go_enter Try.func31, Try.ntmps31
              go_wp2_with (first
                | (go_at_call 43; with_reducible refine (hf _).mono ?_; clear hf; rintro e w2 ⟨rfl, rfl⟩)
                | (go_at_call 43; with_reducible refine (ht _).mono ?_; clear ht; rintro e w3 ⟨rfl, rfl⟩)
                | (go_at_call 44; refine hd'.mono ?_; clear hd'; rintro e w4 ⟨rfl, hc4⟩))
              go_ret
              exact ⟨ret_b (by rw [HR.out]; simp [hA, hB, hE, hF]), hcb⟩
            | true =>
              go_enter Try.func31, Try.ntmps31
              go_wp2_with (first
                | (go_at_call 43; with_reducible refine (hf _).mono ?_; clear hf; rintro e w2 ⟨rfl, rfl⟩)
                | (go_at_call 43; with_reducible refine (ht _).mono ?_; clear ht; rintro e w3 ⟨rfl, rfl⟩)
                | (go_at_call 44; refine hd'.mono ?_; clear hd'; rintro e w4 ⟨rfl, hc4⟩))
              go_ret
              exact ⟨ret_b (by rw [HR.out]; simp [hA, hB, hE, hF]), hcb.trans hc4 (by simp [NoB])⟩
/-- Whose a transaction is. -/
def mineB (me tx : Int) : Bool := decide (1 ≤ tx) && decide (tx ≤ 1099511627776) && (tx % 8 == me)
theorem msgNode_any (tx : Int) (w : World) (h1 : 1 ≤ tx) (h2 : tx ≤ 1099511627776) : Calls Try.prog 32 #[.int .i64 tx] w fun e w' => e = .returned (.int .i64 (tx % 8)) ∧ w' = w := by
  go_enter Try.func32, Try.ntmps32
  go_wp2
  go_ret
  exact ⟨rfl, rfl⟩
theorem msgNode_chg (tx : Int) (w : World) (h1 : 1 ≤ tx) (h2 : tx ≤ 1099511627776) : Calls Try.prog 32 #[.int .i64 tx] w fun e w' => e = .returned (.int .i64 (tx % 8)) ∧ Chg NoB w w' :=
  (msgNode_any tx w h1 h2).mono fun e w' ⟨h1, h2⟩ => ⟨h1, by rw [h2]; exact Chg.refl _ _⟩
theorem mine_any (bc : Nat) (mp : Value) (me tx : Int) (w : World) (hd : At w bc [.int .i64 me, mp] 56) :
    Calls Try.prog 19 #[.pointer (some ⟨bc, 0, none⟩), .int .i64 tx] w fun e w' => e = .returned (.bool (mineB me tx)) ∧ Chg NoB w w' := by
  have HR := Lib.hid (show mineB me tx = (decide (1 ≤ tx) && decide (tx ≤ 1099511627776) && (tx % 8 == me)) from rfl)
  generalize mineB me tx = R at HR ⊢
  have x0 := fun p : WIn w => p.cell (hd.cell 0 rfl)
  have hlt := hd.lt
  cases h1 : decide (1 ≤ tx) with
  | false =>
    go_enter Try.func19, Try.ntmps19
    go_upto_region 1 with (fail)
    refine wp_region_in _ (Chg.refl _ _) (by kernel_rfl) (by kernel_rfl) ?_
    repeat (go_big_quiet_step (fail))
    refine wpQuiet_nil ?_
    rintro _ ⟨⟨W2, hW2⟩, rfl⟩
    go_wp2
    go_ret
    exact ⟨ret_b (by rw [HR.out, h1]; rfl), hW2⟩
  | true =>
    cases h2 : decide (tx ≤ 1099511627776) with
    | false =>
      go_enter Try.func19, Try.ntmps19
      go_upto_region 1 with (fail)
      refine wp_region_in _ (Chg.refl _ _) (by kernel_rfl) (by kernel_rfl) ?_
      repeat (go_big_quiet_step (fail))
      refine wpQuiet_nil ?_
      rintro _ ⟨⟨W2, hW2⟩, rfl⟩
      go_wp2
      go_ret
      exact ⟨ret_b (by rw [HR.out, h1, h2]; rfl), hW2⟩
    | true =>
      have hn := fun p : WIn w => msgNode_chg tx p.w (by simpa using h1) (by simpa using h2)
      go_enter Try.func19, Try.ntmps19
      go_upto_region 1 with (fail)
      refine wp_region_in _ (Chg.refl _ _) (by kernel_rfl) (by kernel_rfl) ?_
      repeat (go_big_quiet_step (exact Calls.in_of (hn _)))
      refine wpQuiet_nil ?_
      rintro _ ⟨⟨W2, hW2⟩, rfl⟩
      go_wp2
      go_ret
      exact ⟨ret_b (by rw [HR.out, h1, h2]; rfl), hW2⟩
end Go.Proofs.Ythpnhndligblaaa
