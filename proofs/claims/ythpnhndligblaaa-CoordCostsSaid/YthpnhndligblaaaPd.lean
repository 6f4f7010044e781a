/- The plain law of 'CoordPresumes'. Conditions: none. -/
import Derived.Test.YthpnhndligblaaaDt
namespace Go.Proofs.Ythpnhndligblaaa
open Go.RowKit Go.Maps Go.BigFrame
def rng (n : Nat) : List Int := (List.range n).map (fun (i : Nat) => (i : Int))
theorem rng_len (n : Nat) : (rng n).length = n := by simp [rng]
theorem rng_succ (k : Nat) : rng (k + 1) = rng k ++ [(k : Int)] := by simp [rng, List.range_succ]
theorem mem_rng {n : Nat} {x : Int} : x ∈ rng n ↔ 0 ≤ x ∧ x < n := by
  simp only [rng, List.mem_map, List.mem_range]
  constructor
  · rintro ⟨i, hi, rfl⟩; omega
  · rintro ⟨h1, h2⟩; exact ⟨x.toNat, by omega, by omega⟩
theorem rng_count (k : Nat) : (rng k).countP (· < (k : Int)) = k := by
  have : (rng k).countP (· < (k : Int)) = (rng k).length := List.countP_eq_length.2 (fun x hx => by have := mem_rng.1 hx; simpa using this.2)
  rw [this, rng_len]
theorem rng_ins (k : Nat) : insI (rng k) ((rng k).countP (· < (k : Int))) k = rng (k + 1) := by
  rw [rng_count, rng_succ]
  unfold insI
  rw [List.take_of_length_le (by rw [rng_len]; exact Nat.le_refl _), List.drop_of_length_le (by rw [rng_len]; exact Nat.le_refl _)]
theorem rng_add (k : Nat) : addI (rng k) k = rng (k + 1) := by
  unfold addI
  rw [if_neg (by
    rw [List.contains_iff_mem]
    intro h
    have := mem_rng.1 h
    omega)]
  exact rng_ins k
theorem rng_at {n k : Nat} (h : k < n) : (rng n)[k]? = some (k : Int) := by simp [rng, h]
theorem rng_drop {n k : Nat} (h : k < n) : (rng n).drop k = (k : Int) :: (rng n).drop (k + 1) := by
  have hk : k < (rng n).length := by rw [rng_len]; exact h
  rw [List.drop_eq_getElem_cons hk]
  congr 1
  have := rng_at h
  rw [List.getElem?_eq_getElem hk] at this
  exact Option.some.inj this
theorem mem_rng_drop {n k : Nat} {x : Int} (h : x ∈ (rng n).drop k) : (k : Int) ≤ x := by
  rw [rng, ← List.map_drop] at h
  obtain ⟨i, hi, rfl⟩ := List.mem_map.1 h
  obtain ⟨j, hj⟩ := List.mem_iff_getElem?.1 hi
  rw [List.getElem?_drop] at hj
  have hlt : k + j < n := by
    have := (List.getElem?_eq_some_iff.1 hj).1
    simpa using this
  rw [List.getElem?_range hlt] at hj
  have := Option.some.inj hj
  omega
theorem rng_dropI {n k : Nat} (h : k < n) : dropI ((rng n).drop k) k = (rng n).drop (k + 1) := by
  rw [rng_drop h]
  unfold dropI
  rw [List.filter_cons_of_neg (by simp)]
  refine List.filter_eq_self.2 fun x hx => ?_
  have := mem_rng_drop hx
  simp
  omega
theorem rng_drop_nil {n k : Nat} : (rng n).drop k = [] ↔ n ≤ k := by
  rw [List.drop_eq_nil_iff, rng_len]
theorem findE_one (e : En) : findE [e] e.tx = some e := by simp [findE]
theorem repE_one (e e' : En) : repE [e] e.tx e' = [e'] := by simp [repE]
theorem delE_one (e : En) : delE [e] e.tx = [] := by simp [delE]
theorem heard_ok {me frm tx kind : Int} {ks : List Int} (h1 : 0 ≤ me) (h2 : me < 8) (h3 : 0 ≤ frm) (h4 : frm < 8) (h5 : 1 ≤ tx) (h6 : tx ≤ 1099511627776) (h7 : 1 ≤ kind) (h8 : kind ≤ 10) (h9 : ks.contains kind = true) : heardB me ⟨kind, frm, me, tx, []⟩ ks = true := by
  simp only [heardB, mayM, nodeB, decB, seqB, membersB, RF, Bool.and_eq_true, decide_eq_true_eq, beq_iff_eq, List.length_nil]
  refine ⟨⟨⟨⟨⟨⟨⟨?_, ?_⟩, ?_⟩, ?_⟩, ?_⟩, ?_⟩, ?_⟩, ?_⟩
  all_goals first | trivial | exact h9 | (simp; done) | omega | (simp; omega)
/-- A transaction of n members, all of which update: before and after k votes. -/
def preE (tx : Int) (n k : Nat) : En := if k < n then ⟨tx, 4, rng n, (rng n).drop k, rng k, false⟩ else ⟨tx, 5, rng n, rng n, rng n, false⟩
theorem preE_tx (tx : Int) (n k : Nat) : (preE tx n k).tx = tx := by unfold preE; split <;> rfl
theorem p_enlist {tx : Int} {k : Nat} (hk : k < 8) : enlistD [⟨tx, 3, rng k, [], [], false⟩] tx k = (0, [⟨tx, 3, rng (k + 1), [], [], false⟩]) := by
  unfold enlistD
  rw [show findE [(⟨tx, 3, rng k, [], [], false⟩ : En)] tx = some ⟨tx, 3, rng k, [], [], false⟩ from findE_one _]
  simp only
  rw [if_neg (by omega), if_neg (by simp), rng_add]
  exact congrArg (Prod.mk _) (repE_one ⟨tx, 3, rng k, [], [], false⟩ _)
theorem rng_ne {n : Nat} (h : 0 < n) : rng n ≠ [] := fun e => by have := congrArg List.length e; rw [rng_len] at this; simp at this; omega
theorem p_ask {me tx : Int} {n : Nat} (hn : 0 < n) : askD me [⟨tx, 3, rng n, [], [], false⟩] tx = (0, ⟨toM 1 me tx (rng n) (rng n), 0, 0, [], 0⟩, [preE tx n 0]) := by
  unfold askD
  rw [show findE [(⟨tx, 3, rng n, [], [], false⟩ : En)] tx = some ⟨tx, 3, rng n, [], [], false⟩ from findE_one _]
  simp only
  rw [if_neg (by simp), if_neg (rng_ne hn)]
  have : preE tx n 0 = ⟨tx, 4, rng n, rng n, [], false⟩ := by unfold preE; rw [if_pos hn]; rfl
  rw [this]
  exact congrArg (fun z => (_, _, z)) (repE_one ⟨tx, 3, rng n, [], [], false⟩ _)
theorem p_vote {me tx : Int} {n k : Nat} (hk : k < n) (hn : n ≤ 8) (h1 : 0 ≤ me) (h2 : me < 8) (h5 : 1 ≤ tx) (h6 : tx ≤ 1099511627776) : (voteD me [preE tx n k] ⟨2, k, me, tx, []⟩).2 = [preE tx n (k + 1)] := by
  have hE : preE tx n k = ⟨tx, 4, rng n, (rng n).drop k, rng k, false⟩ := by unfold preE; rw [if_pos hk]
  unfold voteD
  rw [heard_ok h1 h2 (by omega) (by omega) h5 h6 (by omega) (by omega) (by simp), if_neg (by simp), hE]
  rw [show findE [(⟨tx, 4, rng n, (rng n).drop k, rng k, false⟩ : En)] tx = some ⟨tx, 4, rng n, (rng n).drop k, rng k, false⟩ from findE_one _]
  simp only
  rw [if_neg (by rw [rng_drop hk]; simp), if_neg (by simp), rng_dropI hk]
  by_cases hl : k + 1 < n
  · have hE2 : preE tx n (k + 1) = ⟨tx, 4, rng n, (rng n).drop (k + 1), rng (k + 1), false⟩ := by unfold preE; rw [if_pos hl]
    simp only [if_true]
    rw [if_pos (by rw [Ne, rng_drop_nil]; omega), rng_ins, hE2]
    exact repE_one ⟨tx, 4, rng n, (rng n).drop k, rng k, false⟩ _
  · have hE2 : preE tx n (k + 1) = ⟨tx, 5, rng n, rng n, rng n, false⟩ := by unfold preE; rw [if_neg hl]
    have hkn : k + 1 = n := by omega
    simp only [if_true]
    rw [if_neg (by rw [Ne, rng_drop_nil]; omega), if_neg (by simp), rng_ins, hE2, hkn]
    exact repE_one ⟨tx, 4, rng n, (rng n).drop k, rng k, false⟩ _
theorem p_sure {me tx : Int} {n : Nat} : (sureD me [preE tx n n] tx).2 = [⟨tx, 5, rng n, rng n, rng n, true⟩] := by
  have hE : preE tx n n = ⟨tx, 5, rng n, rng n, rng n, false⟩ := by unfold preE; rw [if_neg (by omega)]
  unfold sureD
  rw [hE, show findE [(⟨tx, 5, rng n, rng n, rng n, false⟩ : En)] tx = some ⟨tx, 5, rng n, rng n, rng n, false⟩ from findE_one _]
  simp only
  rw [if_neg (by simp)]
  exact repE_one ⟨tx, 5, rng n, rng n, rng n, false⟩ _
theorem inq_none {me frm tx : Int} (h1 : 0 ≤ me) (h2 : me < 8) (h3 : 0 ≤ frm) (h4 : frm < 8) (h5 : 1 ≤ tx) (h6 : tx ≤ 1099511627776) (hm : mineB me tx = true) : inquireD me [] ⟨8, frm, me, tx, []⟩ = ⟨[⟨6, me, frm, tx, []⟩], 0, 0, [], 0⟩ := by
  unfold inquireD
  rw [heard_ok h1 h2 h3 h4 h5 h6 (by omega) (by omega) (by simp), if_neg (by simp)]
  show (if mineB me tx = false then _ else _) = _
  rw [hm, if_neg (by simp)]
  rfl
theorem inq_un {me frm : Int} {e : En} (h1 : 0 ≤ me) (h2 : me < 8) (h3 : 0 ≤ frm) (h4 : frm < 8) (h5 : 1 ≤ e.tx) (h6 : e.tx ≤ 1099511627776) (hs : e.sure = false) : inquireD me [e] ⟨8, frm, me, e.tx, []⟩ = noDeal := by
  unfold inquireD
  rw [heard_ok h1 h2 h3 h4 h5 h6 (by omega) (by omega) (by simp), if_neg (by simp)]
  simp only
  rw [findE_one]
  simp only
  rw [if_pos hs]
theorem inq_su {me frm : Int} {e : En} (h1 : 0 ≤ me) (h2 : me < 8) (h3 : 0 ≤ frm) (h4 : frm < 8) (h5 : 1 ≤ e.tx) (h6 : e.tx ≤ 1099511627776) (hs : e.sure = true) : inquireD me [e] ⟨8, frm, me, e.tx, []⟩ = ⟨[⟨5, me, frm, e.tx, []⟩], 0, 0, [], 0⟩ := by
  unfold inquireD
  rw [heard_ok h1 h2 h3 h4 h5 h6 (by omega) (by omega) (by simp), if_neg (by simp)]
  simp only
  rw [findE_one]
  simp only
  rw [if_neg (by rw [hs]; simp)]
  rfl
theorem p_quit {me tx : Int} {n : Nat} (hn : 0 < n) : quitD me [preE tx n 0] tx = (0, ⟨toM 6 me tx (rng n) (quitN (preE tx n 0)), 0, 0, [], 2⟩, []) ∧ (toM 6 me tx (rng n) (quitN (preE tx n 0))).length = n := by
  have hE : preE tx n 0 = ⟨tx, 4, rng n, rng n, [], false⟩ := by unfold preE; rw [if_pos hn]; rfl
  constructor
  · unfold quitD
    rw [hE, show findE [(⟨tx, 4, rng n, rng n, [], false⟩ : En)] tx = some ⟨tx, 4, rng n, rng n, [], false⟩ from findE_one _]
    simp only
    rw [if_neg (by simp)]
    exact congrArg (fun z => (_, _, z)) (delE_one ⟨tx, 4, rng n, rng n, [], false⟩)
  · rw [hE]
    simp [toM, quitN, sortI, rng_len]
theorem p_phase {tx : Int} {n : Nat} : phaseD [preE tx n n] tx = 5 := by
  have hE : preE tx n n = ⟨tx, 5, rng n, rng n, rng n, false⟩ := by unfold preE; rw [if_neg (by omega)]
  unfold phaseD
  rw [hE, show findE [(⟨tx, 5, rng n, rng n, rng n, false⟩ : En)] tx = some ⟨tx, 5, rng n, rng n, rng n, false⟩ from findE_one _]
theorem p_inq {me frm tx : Int} {n k : Nat} (h1 : 0 ≤ me) (h2 : me < 8) (h3 : 0 ≤ frm) (h4 : frm < 8) (h5 : 1 ≤ tx) (h6 : tx ≤ 1099511627776) : inquireD me [preE tx n k] ⟨8, frm, me, tx, []⟩ = noDeal := by
  have := inq_un (e := preE tx n k) h1 h2 h3 h4 (by rw [preE_tx]; exact h5) (by rw [preE_tx]; exact h6) (by unfold preE; split <;> rfl)
  rwa [preE_tx] at this
end Go.Proofs.Ythpnhndligblaaa
