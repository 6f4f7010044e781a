/- The plain law of 'CoordCosts'. Conditions: none. -/
import Derived.Test.YthpnhndligblaaaPd
namespace Go.Proofs.Ythpnhndligblaaa
open Go.RowKit Go.Maps Go.BigFrame
def upd (u : List Bool) (k : Nat) : Bool := u.getD k false
/-- Those below k that update. -/
def ysL (u : List Bool) (k : Nat) : List Int := (rng k).filter (fun x => upd u x.toNat)
/-- Those from k on that update. -/
def yrL (u : List Bool) (n k : Nat) : List Int := (ysL u n).filter (fun x => (k : Int) ≤ x)
theorem ysL_succ (u : List Bool) (k : Nat) : ysL u (k + 1) = ysL u k ++ (if upd u k then [(k : Int)] else []) := by
  unfold ysL
  rw [rng_succ, List.filter_append]
  congr 1
  cases h : upd u k <;> simp [h]
theorem mem_ysL {u : List Bool} {k : Nat} {x : Int} : x ∈ ysL u k ↔ (0 ≤ x ∧ x < k) ∧ upd u x.toNat = true := by
  unfold ysL
  rw [List.mem_filter, mem_rng]
theorem ysL_len (u : List Bool) (k : Nat) : (ysL u k).length ≤ k := by
  unfold ysL
  exact Nat.le_trans (List.length_filter_le _ _) (by rw [rng_len]; exact Nat.le_refl _)
theorem ysL_ins (u : List Bool) (k : Nat) : insI (ysL u k) ((ysL u k).countP (· < (k : Int))) k = ysL u k ++ [(k : Int)] := by
  have : (ysL u k).countP (· < (k : Int)) = (ysL u k).length := List.countP_eq_length.2 (fun x hx => by have := (mem_ysL.1 hx).1.2; simpa using this)
  rw [this]
  unfold insI
  rw [List.take_of_length_le (Nat.le_refl _), List.drop_of_length_le (Nat.le_refl _)]
theorem yrL_zero (u : List Bool) (n : Nat) : yrL u n 0 = ysL u n := List.filter_eq_self.2 (fun x hx => by have := (mem_ysL.1 hx).1.1; simpa using this)
theorem yrL_all (u : List Bool) (n : Nat) : yrL u n n = [] := List.filter_eq_nil_iff.2 (fun x hx => by have := (mem_ysL.1 hx).1.2; simp; omega)
theorem yrL_drop (u : List Bool) (n k : Nat) : dropI (yrL u n k) k = yrL u n (k + 1) := by
  unfold dropI yrL
  rw [List.filter_filter]
  refine List.filter_congr fun x _ => ?_
  rw [Bool.eq_iff_iff]
  simp
  omega
theorem yrL_skip {u : List Bool} {n k : Nat} (h : upd u k = false) : yrL u n k = yrL u n (k + 1) := by
  unfold yrL
  refine List.filter_congr fun x hx => ?_
  have hx' := (mem_ysL.1 hx).2
  have : x ≠ k := fun e => by rw [e] at hx'; simp [h] at hx'
  rw [Bool.eq_iff_iff]
  simp
  omega
theorem yrL_ne {u : List Bool} {n k : Nat} (h : upd u k = true) (hk : k < n) : yrL u n k ≠ [] := fun e => by
  have : (k : Int) ∈ yrL u n k := List.mem_filter.2 ⟨mem_ysL.2 ⟨⟨by omega, by omega⟩, by simpa using h⟩, by simp⟩
  rw [e] at this
  cases this
/-- The entries after k votes, if nobody said no. -/
def costE (u : List Bool) (n k : Nat) : List En := if k < n then [⟨11, 4, rng n, (rng n).drop k, ysL u k, false⟩] else if ysL u n = [] then [] else [⟨11, 5, rng n, ysL u n, ysL u n, true⟩]
theorem c_ask {u : List Bool} {n : Nat} : askD 3 [⟨11, 3, rng n, [], [], false⟩] 11 = (0, ⟨toM 1 3 11 (rng n) (rng n), 0, 0, [], if n = 0 then 1 else 0⟩, costE u n 0) := by
  by_cases h : n = 0
  · subst h
    rfl
  · rw [p_ask (by omega), if_neg h]
    unfold preE costE
    rw [if_pos (by omega), if_pos (by omega)]
    rfl
def kindOf (u : List Bool) (k : Nat) : Int := if upd u k then 2 else 3
theorem kind_cases (u : List Bool) (k : Nat) : (kindOf u k = 2 ∧ upd u k = true) ∨ (kindOf u k = 3 ∧ upd u k = false) := by
  unfold kindOf
  cases upd u k <;> simp
theorem c_yes {u : List Bool} {k : Nat} : (if kindOf u k = 2 then insI (ysL u k) ((ysL u k).countP (· < (k : Int))) k else ysL u k) = ysL u (k + 1) := by
  rw [ysL_succ]
  rcases kind_cases u k with ⟨h1, h2⟩ | ⟨h1, h2⟩
  · rw [if_pos h1, h2, ysL_ins]; rfl
  · rw [if_neg (by omega), h2]; simp
theorem c_vote {u : List Bool} {n k : Nat} (hk : k < n) (hn : n ≤ 8) :
    voteD 3 (costE u n k) ⟨kindOf u k, k, 3, 11, []⟩ = if k + 1 < n then (noDeal, costE u n (k + 1)) else if ysL u n = [] then (⟨[], 0, 0, [], 1⟩, []) else (⟨[], 9, 11, ysL u n, 0⟩, [⟨11, 5, rng n, ysL u n, ysL u n, false⟩]) := by
  have hkk : kindOf u k = 2 ∨ kindOf u k = 3 := (kind_cases u k).imp And.left And.left
  have hE : costE u n k = [⟨11, 4, rng n, (rng n).drop k, ysL u k, false⟩] := by unfold costE; rw [if_pos hk]
  unfold voteD
  rw [heard_ok (by omega) (by omega) (by omega) (by omega) (by omega) (by omega) (by omega) (by omega) (by rcases hkk with h | h <;> rw [h] <;> simp), if_neg (by simp), hE]
  rw [show findE [(⟨11, 4, rng n, (rng n).drop k, ysL u k, false⟩ : En)] 11 = some ⟨11, 4, rng n, (rng n).drop k, ysL u k, false⟩ from findE_one _]
  simp only
  rw [if_neg (by rw [rng_drop hk]; simp), if_neg (by omega), rng_dropI hk]
  rw [c_yes]
  by_cases hl : k + 1 < n
  · rw [if_pos (by rw [Ne, rng_drop_nil]; omega), if_pos hl]
    have hE2 : costE u n (k + 1) = [⟨11, 4, rng n, (rng n).drop (k + 1), ysL u (k + 1), false⟩] := by unfold costE; rw [if_pos hl]
    rw [hE2]
    exact congrArg (Prod.mk _) (repE_one ⟨11, 4, rng n, (rng n).drop k, ysL u k, false⟩ _)
  · obtain rfl : n = k + 1 := by omega
    rw [if_neg (by rw [Ne, rng_drop_nil]; omega), if_neg hl]
    by_cases hy : ysL u (k + 1) = []
    · have hy2 := hy
      rw [ysL_succ, List.append_eq_nil_iff] at hy2
      have h3 : kindOf u k ≠ 2 := by
        rcases kind_cases u k with ⟨h1, h2⟩ | ⟨h1, h2⟩
        · rw [h2] at hy2; simp at hy2
        · omega
      rw [if_pos ⟨h3, hy2.1⟩, if_pos hy]
      exact congrArg (Prod.mk _) (delE_one ⟨11, 4, rng (k + 1), (rng (k + 1)).drop k, ysL u k, false⟩)
    · rw [if_neg (by
        rintro ⟨h1, h2⟩
        apply hy
        rw [ysL_succ, h2]
        rcases kind_cases u k with ⟨h3, _⟩ | ⟨_, h4⟩
        · exact absurd h3 h1
        · rw [h4]; rfl), if_neg hy]
      exact congrArg (Prod.mk _) (repE_one ⟨11, 4, rng (k + 1), (rng (k + 1)).drop k, ysL u k, false⟩ _)
theorem c_no {u : List Bool} {n k : Nat} (hk : k < n) (hn : n ≤ 8) :
    ∃ M, voteD 3 (costE u n k) ⟨4, k, 3, 11, []⟩ = (⟨M, 0, 0, [], 2⟩, []) ∧ M.length ≤ 16 := by
  have hE : costE u n k = [⟨11, 4, rng n, (rng n).drop k, ysL u k, false⟩] := by unfold costE; rw [if_pos hk]
  refine ⟨toM 6 3 11 (rng n) (sortI (sortI ((rng n).drop (k + 1)) ++ ysL u k)), ?_, ?_⟩
  · unfold voteD
    rw [heard_ok (by omega) (by omega) (by omega) (by omega) (by omega) (by omega) (by omega) (by omega) (by simp), if_neg (by simp), hE]
    rw [show findE [(⟨11, 4, rng n, (rng n).drop k, ysL u k, false⟩ : En)] 11 = some ⟨11, 4, rng n, (rng n).drop k, ysL u k, false⟩ from findE_one _]
    simp only
    rw [if_neg (by rw [rng_drop hk]; simp), rng_dropI hk]
    simp only [if_true]
    exact congrArg (Prod.mk _) (delE_one ⟨11, 4, rng n, (rng n).drop k, ysL u k, false⟩)
  · have h1 := ysL_len u k
    simp [toM, sortI, rng_len]
    omega
theorem c_sure {u : List Bool} {n : Nat} (hy : ysL u n ≠ []) : sureD 3 [⟨11, 5, rng n, ysL u n, ysL u n, false⟩] 11 = (⟨toM 5 3 11 (rng n) (sortI (ysL u n)), 0, 0, [], 1⟩, costE u n n) := by
  have hE : costE u n n = [⟨11, 5, rng n, ysL u n, ysL u n, true⟩] := by unfold costE; rw [if_neg (by omega), if_neg hy]
  unfold sureD
  rw [show findE [(⟨11, 5, rng n, ysL u n, ysL u n, false⟩ : En)] 11 = some ⟨11, 5, rng n, ysL u n, ysL u n, false⟩ from findE_one _]
  simp only
  rw [if_neg (by simp), hE]
  exact congrArg (Prod.mk _) (repE_one ⟨11, 5, rng n, ysL u n, ysL u n, false⟩ _)
theorem c_sent (u : List Bool) (n : Nat) : (toM 5 3 11 (rng n) (sortI (ysL u n))).length = (ysL u n).length := by simp [toM, sortI]
/-- The entries after the first k nodes' acknowledgements. -/
def ackE (u : List Bool) (n k : Nat) : List En := if yrL u n k = [] then [] else [⟨11, 5, rng n, yrL u n k, ysL u n, true⟩]
theorem ackE_zero (u : List Bool) (n : Nat) : ackE u n 0 = costE u n n := by
  unfold ackE costE
  rw [yrL_zero, if_neg (Nat.lt_irrefl n)]
theorem ackE_all (u : List Bool) (n : Nat) : ackE u n n = [] := by
  unfold ackE
  rw [yrL_all, if_pos rfl]
theorem ackE_skip {u : List Bool} {n k : Nat} (h : upd u k = false) : ackE u n k = ackE u n (k + 1) := by
  unfold ackE
  rw [yrL_skip h]
theorem c_ack {u : List Bool} {n k : Nat} (hk : k < n) (hn : n ≤ 8) (h : upd u k = true) :
    ackD 3 (ackE u n k) ⟨7, k, 3, 11, []⟩ = (if yrL u n (k + 1) = [] then ⟨[], 10, 11, [], 0⟩ else noDeal, ackE u n (k + 1)) := by
  have hE : ackE u n k = [⟨11, 5, rng n, yrL u n k, ysL u n, true⟩] := by unfold ackE; rw [if_neg (yrL_ne h hk)]
  unfold ackD
  rw [heard_ok (by omega) (by omega) (by omega) (by omega) (by omega) (by omega) (by omega) (by omega) (by simp), if_neg (by simp), hE]
  rw [show findE [(⟨11, 5, rng n, yrL u n k, ysL u n, true⟩ : En)] 11 = some ⟨11, 5, rng n, yrL u n k, ysL u n, true⟩ from findE_one _]
  simp only
  rw [if_neg (by simp), yrL_drop]
  unfold ackE
  by_cases hy : yrL u n (k + 1) = []
  · rw [if_neg (by simpa using hy), if_pos hy, if_pos hy]
    exact congrArg (Prod.mk _) (delE_one ⟨11, 5, rng n, yrL u n k, ysL u n, true⟩)
  · rw [if_pos hy, if_neg hy, if_neg hy]
    exact congrArg (Prod.mk _) (repE_one ⟨11, 5, rng n, yrL u n k, ysL u n, true⟩ _)
/-- The records by then. -/
def recA (u : List Bool) (n k : Nat) : Int := if ysL u n = [] then 0 else if yrL u n k = [] then 2 else 1
theorem recA_skip {u : List Bool} {n k : Nat} (h : upd u k = false) : recA u n (k + 1) = recA u n k := by
  unfold recA
  rw [← yrL_skip h]
theorem ysL_ne {u : List Bool} {n k : Nat} (h : upd u k = true) (hk : k < n) : ysL u n ≠ [] := fun e => by
  have := yrL_ne h hk
  unfold yrL at this
  rw [e] at this
  exact this rfl
theorem recA_upd {u : List Bool} {n k : Nat} (h : upd u k = true) (hk : k < n) : recA u n k = 1 ∧ recA u n (k + 1) = if yrL u n (k + 1) = [] then 2 else 1 := by
  unfold recA
  rw [if_neg (ysL_ne h hk), if_neg (yrL_ne h hk), if_neg (ysL_ne h hk)]
  exact ⟨rfl, rfl⟩
theorem recA_all (u : List Bool) (n : Nat) : recA u n n = if (ysL u n).length = 0 then 0 else 2 := by
  unfold recA
  rw [yrL_all]
  by_cases h : ysL u n = []
  · rw [if_pos h, if_pos (by rw [h]; rfl)]
  · rw [if_neg h, if_pos rfl, if_neg (fun e => h (List.eq_nil_of_length_eq_zero e))]
end Go.Proofs.Ythpnhndligblaaa
