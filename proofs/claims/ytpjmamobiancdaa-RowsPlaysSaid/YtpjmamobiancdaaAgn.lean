/- The plain law of 'RowsAgain', and Add whatever the row. Conditions: at most 2^40 members and locks. -/
import Derived.Test.YtpjmamobiancdaaPlr
import Derived.Test.YtpjmamobiancdaaRg
import Derived.Test.YtpjmamobiancdaaCh
namespace Go.Proofs.Ytpjmamobiancdaa
open Go.RowKit Go.Maps Go.BigFrame
/-- A table's rows, rising. -/
def sorted (l : List (Int × X)) : List Rw := (sortI (l.map (·.1))).map (fun k => (lookX l k).1)
theorem rel_of {w : World} {bt bm : Nat} {l : List (Int × X)} (h : TAt w bt bm l) : Rel l (sorted l) := by
  have hk : ∀ p ∈ l, p.1 = p.2.1.tx := fun p hp => (h.may p hp).2
  have hn := h.mp.nodup
  have hp : (sortI (l.map (·.1))).Perm (l.map (·.1)) := List.mergeSort_perm _ _
  have hlook : ∀ p ∈ l, (lookX l p.1).1 = p.2.1 := fun p hp => by
    unfold lookX
    rw [mget_of_mem hn hp]
    rfl
  have hsub : ∀ k ∈ sortI (l.map (·.1)), (lookX l k).1.tx = k := by
    intro k hk'
    obtain ⟨p, hpl, rfl⟩ := List.mem_map.1 (hp.subset hk')
    rw [hlook p hpl]
    exact (hk p hpl).symm
  refine ⟨hk, hn, ?_, ?_⟩
  · have h1 := hp.map (fun k => (lookX l k).1)
    rw [List.map_map] at h1
    have h2 : l.map ((fun k => (lookX l k).1) ∘ fun p => p.1) = rowsOf l := List.map_congr_left (fun p hpl => hlook p hpl)
    rw [h2] at h1
    exact h1
  · have h3 : (sorted l).map Rw.tx = sortI (l.map (·.1)) := by
      unfold sorted
      rw [List.map_map]
      conv => rhs; rw [← List.map_id (sortI (l.map (·.1)))]
      exact List.map_congr_left (fun k hk' => hsub k hk')
    have h4 : (sortI (l.map (·.1))).Pairwise (fun a b => a ≤ b) := by
      have := List.pairwise_mergeSort (le := fun x y : Int => decide (x ≤ y)) (fun a b c h1 h2 => by simp only [decide_eq_true_eq] at *; omega) (fun a b => by simp only [Bool.or_eq_true, decide_eq_true_eq]; omega) (l.map (·.1))
      exact this.imp (fun h => by simpa using h)
    have h5 : (sortI (l.map (·.1))).Pairwise (fun a b => a ≠ b) := hp.nodup_iff.2 hn
    have h6 : (sortI (l.map (·.1))).Pairwise (fun a b => a < b) := (h4.and h5).imp (fun ⟨h1, h2⟩ => by omega)
    rw [← h3] at h6
    exact List.pairwise_map.1 h6
theorem sorted_len {w : World} {bt bm : Nat} {l : List (Int × X)} (h : TAt w bt bm l) : (sorted l).length = l.length := (rel_of h).len
theorem sorted_may {w : World} {bt bm : Nat} {l : List (Int × X)} (h : TAt w bt bm l) : ∀ r ∈ sorted l, rowB r = true := by
  intro r hr
  obtain ⟨p, hp, rfl⟩ := List.mem_map.1 ((rel_of h).perm.subset hr)
  exact (h.may p hp).1
theorem TAt.other {w w' : World} {bt bm b2 : Nat} {l l2 : List (Int × X)} (h : TAt w bt bm l) (hm : TMap w b2 l2) (hne : bm ≠ b2) (c : Chg (· = b2) w w') : TAt w' bt bm l :=
  ⟨h.hd.chg c (fun e => (hm.ne_at h.hd) e.symm), h.mp.chg c hne, fun p hp => (h.own p hp).chg_map hm c, h.may⟩
theorem sorted_lens {w : World} {bt bm : Nat} {l : List (Int × X)} (h : TAt w bt bm l) {A : List X} (hA : A.map (·.1) = sorted l) : ∀ x ∈ A, x.1.ms.length ≤ 1099511627776 ∧ x.1.ls.length ≤ 1099511627776 := by
  intro x hx
  have := sorted_may h x.1 (by rw [← hA]; exact List.mem_map.2 ⟨x, hx, rfl⟩)
  have := rowB_len this
  omega
/-- Add, whatever the row: a table of at most 64 rows stays one. -/
theorem add_len (bt bm : Nat) (l : List (Int × X)) (r : Rw) (mv lv : Value) (w : World) (ht : TAt w bt bm l) (hl : l.length ≤ 64) (hm0 : Sees w cellsI mv r.ms) (hl0 : Sees w cellsL lv r.ls) (hml : r.ms.length ≤ 1099511627776) (hll : r.ls.length ≤ 1099511627776) :
    Calls Try.prog 11 #[.pointer (some ⟨bt, 0, none⟩), rowV r mv lv] w fun e w' => ∃ c l', e = .returned (.int .i64 c) ∧ TAt w' bt bm l' ∧ l'.length ≤ 64 ∧ Chg (· = bm) w w' := by
  cases hB : rowB r with
  | false => exact (add_bad bt r mv lv w hm0 hl0 hml hll hB).mono fun e w' ⟨h1, h2⟩ => ⟨1, l, h1, ht.no h2, hl, h2.mono (by simp [NoB])⟩
  | true =>
    cases hh : hasX l r.tx with
    | true => exact (add_tx bt bm l r mv lv w ht hm0 hl0 hB hh).mono fun e w' ⟨h1, h2⟩ => ⟨160, l, h1, ht.no h2, hl, h2.mono (by simp [NoB])⟩
    | false =>
      by_cases hf : l.length < 64
      · refine (add_ok bt bm l r mv lv w ht hm0 hl0 hB hh hf).mono fun e w' ⟨h1, m, v, h2, h3⟩ => ⟨0, _, h1, h2, ?_, h3⟩
        have hno : ¬ r.tx ∈ l.map (·.1) := by
          rw [← mget_isSome]
          unfold hasX at hh
          rw [hh]
          simp
        unfold mput
        rw [if_neg hno]
        simp
        omega
      · exact (add_full bt bm l r mv lv w ht hm0 hl0 hB hh (by omega)).mono fun e w' ⟨h1, h2⟩ => ⟨162, l, h1, ht.no h2, hl, h2.mono (by simp [NoB])⟩
/-- Rows that rise, taken from the last on, are each new. -/
theorem rev_new {M : List Rw} (h : M.Pairwise (fun a b => a.tx < b.tx)) {k : Nat} {r : Rw} (hr : M.reverse[k]? = some r) {w : World} {bt bm : Nat} {l : List (Int × X)} (ht : TAt w bt bm l) (hl : rowsOf l = M.reverse.take k) : hasX l r.tx = false := by
  refine Bool.eq_false_iff.2 fun hh => ?_
  have hkeys : l.map (·.1) = (rowsOf l).map Rw.tx := by
    unfold rowsOf
    rw [List.map_map]
    exact List.map_congr_left (fun p hp => (ht.may p hp).2)
  unfold hasX at hh
  rw [mget_isSome, hkeys, hl] at hh
  obtain ⟨s, hs, he⟩ := List.mem_map.1 hh
  have hp : M.reverse.Pairwise (fun a b => b.tx < a.tx) := List.pairwise_reverse.2 h
  rw [← List.take_append_drop k M.reverse, List.pairwise_append] at hp
  have hk := (List.getElem?_eq_some_iff.1 hr).1
  have hr2 : r ∈ M.reverse.drop k := by
    rw [List.drop_eq_getElem_cons hk, (List.getElem?_eq_some_iff.1 hr).2]
    exact List.mem_cons_self ..
  have := hp.2.2 s hs r hr2
  omega
theorem rows_put {w : World} {bt bm : Nat} {l : List (Int × X)} (_ht : TAt w bt bm l) {x : X} (hn : hasX l x.1.tx = false) : rowsOf (mput l x.1.tx x) = rowsOf l ++ [x.1] := by
  have hno : ¬ x.1.tx ∈ l.map (·.1) := by
    rw [← mget_isSome]
    unfold hasX at hn
    rw [hn]
    simp
  unfold mput rowsOf
  rw [if_neg hno, List.map_append]
  rfl
/-- Two tables of the same rows: the same list, the same least one. -/
theorem sorted_eq {w : World} {bt bm bs bms : Nat} {l l2 : List (Int × X)} (h : TAt w bt bm l) (h2 : TAt w bs bms l2) (hr : rowsOf l2 = (sorted l).reverse) : sorted l2 = sorted l := by
  have r1 := rel_of h
  have r2 := rel_of h2
  have hp : (sorted l2).Perm (sorted l) := by
    have := r2.perm
    rw [hr] at this
    exact this.trans (List.reverse_perm _)
  exact hp.eq_of_pairwise (le := fun a b => a.tx < b.tx) (fun a b _ _ h1 h2 => by omega) r2.up r1.up
end Go.Proofs.Ytpjmamobiancdaa
