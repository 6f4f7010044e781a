/- The walk of 'RowsFull'. Conditions: an int. -/
import Derived.Test.YtpjmamobiancdaaIn
import Derived.Test.YtpjmamobiancdaaAw
namespace Go.Proofs.Ytpjmamobiancdaa
open Go.RowKit Go.Maps Go.BigFrame
/-- The row that is added at place j. -/
def fr (n : Int) (j : Nat) : Rw := ⟨n - j, 1, (j : Int) + 1, 0, 0, 0, [], []⟩
def frs (n : Int) (m : Nat) : List Rw := (List.range m).map (fr n)
theorem frs_succ (n : Int) (m : Nat) : frs n (m + 1) = frs n m ++ [fr n m] := by simp [frs, List.range_succ]
theorem frs_len (n : Int) (m : Nat) : (frs n m).length = m := by simp [frs]
theorem frs_least (n : Int) (m : Nat) : lsOf (frs n m) = if m = 0 then 0 else 1 := by
  induction m with
  | zero => rfl
  | succ m ih =>
    rw [frs_succ, lsOf_snoc, ih, if_neg (show ¬ (m + 1 = 0) by omega)]
    unfold lsStep fr
    simp only
    by_cases hm : m = 0
    · subst hm; rfl
    · simp only [hm, if_false]
      rw [if_neg (by omega)]
theorem keys_rows {w : World} {bt bm : Nat} {l : List (Int × X)} (h : TAt w bt bm l) : l.map (·.1) = (l.map (fun p => p.2.1)).map Rw.tx := by
  rw [List.map_map]
  exact List.map_congr_left (fun p hp => (h.may p hp).2)
theorem hasX_iff (l : List (Int × X)) (n : Int) : hasX l n = true ↔ n ∈ l.map (·.1) := mget_isSome
theorem fr_has {w : World} {bt bm : Nat} {l : List (Int × X)} (h : TAt w bt bm l) {n : Int} {m k : Nat} (hl : l.map (fun p => p.2.1) = frs n m) (hk : m ≤ k) : hasX l (n - k) = false := by
  refine Bool.eq_false_iff.2 fun hh => ?_
  rw [hasX_iff, keys_rows h, hl] at hh
  unfold frs at hh
  rw [List.map_map] at hh
  obtain ⟨j, hj, he⟩ := List.mem_map.1 hh
  simp [fr] at he hj
  omega
theorem fr_has0 {w : World} {bt bm : Nat} {l : List (Int × X)} (h : TAt w bt bm l) {n : Int} {m : Nat} (hl : l.map (fun p => p.2.1) = frs n m) (hm : 0 < m) : hasX l n = true := by
  rw [hasX_iff, keys_rows h, hl]
  unfold frs
  rw [List.map_map]
  exact List.mem_map.2 ⟨0, List.mem_range.2 hm, by simp [fr]⟩
theorem fr_ok {n : Int} {k : Nat} (h1 : (k : Int) < n) (h2 : n ≤ 100) : rowB (fr n k) = true := by
  simp only [rowB, fr, seqB, nodeB, membersB, locksB, RF, Bool.and_eq_true, List.length_nil, Bool.and_true]
  refine ⟨⟨⟨⟨⟨⟨⟨⟨⟨?_, ?_⟩, rfl⟩, rfl⟩, ?_, ?_⟩, rfl, rfl⟩, rfl, rfl⟩, rfl, rfl⟩, rfl⟩, rfl⟩ <;> exact decide_eq_true (by omega)
theorem fr_put {n : Int} {k : Nat} {l : List (Int × X)} (hh : hasX l (n - k) = false) (hl : l.map (fun p => p.2.1) = frs n k) (m v : Value) : (mput l (fr n k).tx (fr n k, m, v)).map (fun p => p.2.1) = frs n (k + 1) := by
  have : ¬ (fr n k).tx ∈ l.map (·.1) := by
    rw [← hasX_iff]
    simp [fr, hh]
  unfold mput
  rw [if_neg this, List.map_append, hl, frs_succ]
  rfl
set_option maxHeartbeats 4000000 in
theorem walk_rowsFull (n : Int) (w : World) (hn : I64 n) : Calls Try.prog 4 #[.int .i64 n] w fun e w' => e = .returned (.bool true) ∧ Below w.heap.size w w' := by
  by_cases h0 : n < 0 ∨ 100 < n
  · have h8 := fun W => awake_any W
    go_enter Try.func4, Try.ntmps4
    go_wp2_with (go_at_call 9; refine (h8 _).mono ?_; clear h8; rintro e W8 ⟨rfl, hc8⟩)
    all_goals first | (go_ret; exact ⟨rfl, hc8.below (Nat.le_refl _) (fun k h => h.elim)⟩) | (exfalso; omega)
  · have hd0 : decide (n < 0) = false := by simp; omega
    have hd1 : decide (100 < n) = false := by simp; omega
    have hnew := new_any w
    go_enter Try.func4, Try.ntmps4
    go_wp2_with (go_at_call 10; refine hnew.mono ?_; clear hnew; rintro e w1 ⟨rfl, ht1, hc1⟩)
    go_loopw [4] (fun i wr => ∃ (k : Nat) (l : List (Int × X)), i = .int .i64 k ∧ (k : Int) ≤ n ∧ TAt wr (w.heap.size + 1) w.heap.size l ∧ l.map (fun p => p.2.1) = frs n (min k 64) ∧ Chg NoB w wr) (fun i _ => n.toNat - (intOf i).toNat)
    case atStart => exact ⟨0, [], rfl, by omega, ht1, rfl, hc1⟩
    case round =>
      obtain ⟨k, l, rfl, hk, ht, hl, hcw⟩ := hrel
      have hT : ∀ j, j < w.heap.size → j = w.heap.size → NoB j := fun j h1 h2 => by omega
      have hlen : l.length = min k 64 := by rw [← frs_len n (min k 64), ← hl, List.length_map]
      by_cases hlt' : (k : Int) < n
      · have hd2 : decide ((k : Int) < n) = true := by simpa using hlt'
        have hB := fr_ok hlt' (by omega)
        by_cases h64 : k < 64
        · have hmin : min k 64 = k := by omega
          rw [hmin] at hl hlen
          have hh := fr_has ht hl (Nat.le_refl k)
          have hadd := add_ok _ _ l (fr n k) (.slice none 0 0) (.slice none 0 0) wr ht (Sees.nil _) (Sees.nil _) hB hh (by omega)
          have hput := fr_put hh hl
          have hd3 : decide ((k : Int) < 64) = true := by simp; omega
          unfold rowV fr at hadd
          unfold fr at hput
          simp only at hadd hput
          clear hB hh hl hlen
          go_wp2_with (go_at_call 11; refine hadd.mono ?_; clear hadd; rintro e w2 ⟨rfl, m1, v1, ht2, hc2⟩)
          exact ⟨⟨k + 1, _, by go_num, by omega, ht2, by rw [hput m1 v1]; congr 1; omega, hcw.trans hc2 hT⟩, by simp [intOf]; omega⟩
        · have hmin : min k 64 = 64 := by omega
          have hmin2 : min (k + 1) 64 = 64 := by omega
          rw [hmin] at hl hlen
          have hh := fr_has ht hl (k := k) (by omega)
          have hadd := add_full _ _ l (fr n k) (.slice none 0 0) (.slice none 0 0) wr ht (Sees.nil _) (Sees.nil _) hB hh (by omega)
          have hd3 : decide ((k : Int) < 64) = false := by simp; omega
          unfold rowV fr at hadd
          simp only at hadd
          have HL := Lib.hid hl
          clear hB hh hl hlen
          go_wp2_with (go_at_call 11; refine hadd.mono ?_; clear hadd; rintro e w2 ⟨rfl, hc2⟩)
          exact ⟨⟨k + 1, l, by go_num, by omega, ht.no hc2, by rw [hmin2]; exact HL.out, hcw.trans hc2 (by simp [NoB])⟩, by simp [intOf]; omega⟩
      · have hkn : (k : Int) = n := by omega
        subst hkn
        have hd2 : decide ((k : Int) < (k : Int)) = false := by simp
        have hall := all_any _ _ l wr ht (by omega)
        have hls := fun W (hW : Chg NoB wr W) => least_any _ _ l W (ht.no hW)
        rw [hl, frs_least] at hls
        have h8 := fun W => awake_any W
        have hsl : (sortI (l.map (·.1))).length = min k 64 := by
          unfold sortI
          rw [List.length_mergeSort, List.length_map, hlen]
        by_cases hk0 : k = 0
        · have hmz : min k 64 = 0 := by omega
          rw [hmz] at hls hsl
          simp only [if_true] at hls
          have hz : ((k : Int) == 0) = true := by simp [hk0]
          have hm1 : min (k : Int) 1 = 0 := by omega
          have hq1 : min (k : Int) 64 = 0 := by omega
          clear hlen hl hmz hk0
          go_wp2_with (first
            | (go_at_call 13; refine hall.mono ?_; clear hall; rintro e w2 ⟨v, L, rfl, hrow, hxs, hL, hc2⟩; have hLl := congrArg List.length hL; rw [List.length_map, List.length_map, hsl] at hLl; obtain ⟨ao, cap, rfl, _⟩ := hrow.shape; have hLi : (L.length : Int) = 0 := (by omega); have hls' := hls _ hc2; clear hls hL hxs hLl hsl)
            | (go_at_call 15; refine hls'.mono ?_; clear hls'; rintro e w3 ⟨rfl, hc3⟩)
            | (go_at_call 9; refine (h8 _).mono ?_; clear h8; rintro e W8 ⟨rfl, hc8⟩))
          go_ret
          exact ⟨rfl, (((hcw.trans hc2 (by simp [NoB])).trans hc3 (by simp [NoB])).trans hc8 (by simp [NoB])).below (Nat.le_refl _) (fun k h => h.elim)⟩
        · have hz : ((k : Int) == 0) = false := by simp; omega
          rw [if_neg (by omega)] at hls
          have hh0 := fr_has0 ht hl (by omega)
          have hB : rowB ⟨(k : Int), 2, 0, 0, 0, 0, [], []⟩ = true := by
            simp only [rowB, seqB, nodeB, membersB, locksB, RF, Bool.and_eq_true, List.length_nil, Bool.and_true]
            refine ⟨⟨⟨⟨⟨⟨⟨⟨⟨?_, ?_⟩, rfl⟩, rfl⟩, rfl, rfl⟩, rfl, rfl⟩, rfl, rfl⟩, rfl, rfl⟩, rfl⟩, rfl⟩ <;> exact decide_eq_true (by omega)
          have hput := fun W (hW : Chg NoB wr W) => put_ok _ _ l ⟨(k : Int), 2, 0, 0, 0, 0, [], []⟩ (.slice none 0 0) (.slice none 0 0) W (ht.no hW) (Sees.nil _) (Sees.nil _) hB hh0
          unfold rowV at hput
          simp only at hput
          have hm1 : min (k : Int) 1 = 1 := by omega
          obtain ⟨q, hq⟩ : ∃ q : Nat, min k 64 = q := ⟨_, rfl⟩
          have hq1 : min (k : Int) 64 = (q : Int) := by omega
          rw [hq] at hsl
          clear hlen hB hh0 hl
          go_wp2_with (first
            | (go_at_call 13; refine hall.mono ?_; clear hall; rintro e w2 ⟨v, L, rfl, hrow, hxs, hL, hc2⟩; have hLl := congrArg List.length hL; rw [List.length_map, List.length_map, hsl] at hLl; obtain ⟨ao, cap, rfl, _⟩ := hrow.shape; have hLi : (L.length : Int) = (q : Int) := (by omega); have hls' := hls _ hc2; clear hls hL hxs hLl hsl)
            | (go_at_call 15; refine hls'.mono ?_; clear hls'; rintro e w3 ⟨rfl, hc3⟩; have hput' := hput _ (hc2.trans hc3 (by simp [NoB])); clear hput)
            | (go_at_call 16; refine hput'.mono ?_; clear hput'; rintro e w4 ⟨rfl, m1, v1, ht4, hc4⟩)
            | (go_at_call 9; refine (h8 _).mono ?_; clear h8; rintro e W8 ⟨rfl, hc8⟩))
          go_ret
          exact ⟨rfl, ((((hcw.trans hc2 (by simp [NoB])).trans hc3 (by simp [NoB])).trans hc4 hT).trans hc8 (by simp [NoB])).below (Nat.le_refl _) (fun k h => h.elim)⟩
end Go.Proofs.Ytpjmamobiancdaa
