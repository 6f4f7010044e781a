/- The two tables side by side, call by call. Conditions: at most 64 rows. -/
import Derived.Test.YtpjmamobiancdaaPlr
import Derived.Test.YtpjmamobiancdaaRg
import Derived.Test.YtpjmamobiancdaaRgt
import Derived.Test.YtpjmamobiancdaaRpt
import Derived.Test.YtpjmamobiancdaaAgn
namespace Go.Proofs.Ytpjmamobiancdaa
open Go.RowKit Go.Maps Go.BigFrame
def addC (M : List Rw) (r : Rw) : Int := if rowB r = false then 1 else if thereB M r.tx = true then 160 else if 64 ≤ M.length then 162 else 0
def addM (M : List Rw) (r : Rw) : List Rw := if addC M r = 0 then M.take (findI M r.tx) ++ [r] ++ M.drop (findI M r.tx) else M
def putC (M : List Rw) (r : Rw) : Int := if rowB r = false then 1 else if thereB M r.tx = false then 160 else 0
def putM (M : List Rw) (r : Rw) : List Rw := if putC M r = 0 then M.set (findI M r.tx) r else M
def dropM (M : List Rw) (n : Int) : List Rw := if thereB M n = true then M.take (findI M n) ++ M.drop (findI M n + 1) else M
/-- What the reference's calls write: its field, and its rows' own block. -/
def RS (bR : Nat) (v : Value) : Nat → Prop := fun b => b = bR ∨ v.ownBlock = some b
theorem At.type {w : World} {b : Nat} {cs cs' : List Value} {T T' : TypeId} (h : At w b cs T) (h' : At w b cs' T') : T = T' := by
  unfold At at h h'
  rw [h] at h'
  simp at h'
  exact h'.2
theorem TAt.ref {w w' : World} {bt bm base bR : Nat} {l : List (Int × X)} {v : Value} {L : List X} (h : TAt w bt bm l) (hr : RAt w base bR v L) (c : Chg (RS bR v) w w') : TAt w' bt bm l := by
  have n1 : ¬ RS bR v bt := by
    rintro (e | e)
    · subst e
      have := At.type h.hd hr.hd
      simp at this
    · exact hr.row.apart_at h.hd (by decide) e
  have n2 : ¬ RS bR v bm := by
    rintro (e | e)
    · subst e
      exact h.mp.ne_at hr.hd rfl
    · exact hr.row.apart_map h.mp e
  refine ⟨h.hd.chg c n1, h.mp.chg c n2, fun p hp => (h.own p hp).chg c (fun g hg e => ?_) (fun g hg e => ?_), h.may⟩
  · rcases e with e | e
    · subst e
      exact (h.own p hp).1.apart_at hr.hd (by decide) hg
    · exact (h.own p hp).1.apart hr.row (by decide) g hg e
  · rcases e with e | e
    · subst e
      exact (h.own p hp).2.apart_at hr.hd (by decide) hg
    · exact (h.own p hp).2.apart hr.row (by decide) g hg e
theorem RAt.map {w w' : World} {bm base bR : Nat} {l : List (Int × X)} {v : Value} {L : List X} (hr : RAt w base bR v L) (hm : TMap w bm l) (c : Chg (· = bm) w w') : RAt w' base bR v L :=
  ⟨hr.hd.chg c (fun e => (hm.ne_at hr.hd) e.symm), hr.row.chg c (fun g hg e => by subst e; exact hr.row.apart_map hm hg), fun x hx => (hr.own x hx).chg_map hm c⟩
theorem t_add (bt bm : Nat) (l : List (Int × X)) (M : List Rw) (r : Rw) (mv lv : Value) (w : World) (ht : TAt w bt bm l) (hrel : Rel l M) (hm0 : Sees w cellsI mv r.ms) (hl0 : Sees w cellsL lv r.ls) (hml : r.ms.length ≤ 1099511627776) (hll : r.ls.length ≤ 1099511627776) :
    Calls Try.prog 11 #[.pointer (some ⟨bt, 0, none⟩), rowV r mv lv] w fun e w' => ∃ l', e = .returned (.int .i64 (addC M r)) ∧ TAt w' bt bm l' ∧ Rel l' (addM M r) ∧ Chg (· = bm) w w' := by
  have hc : ∀ c, addC M r = c → c ≠ 0 → addM M r = M := fun c h1 h2 => by unfold addM; rw [if_neg (by rw [h1]; exact h2)]
  cases hB : rowB r with
  | false =>
    have h1 : addC M r = 1 := by unfold addC; rw [if_pos hB]
    exact (add_bad bt r mv lv w hm0 hl0 hml hll hB).mono fun e w' ⟨h2, h3⟩ => ⟨l, by rw [h1]; exact h2, ht.no h3, by rw [hc 1 h1 (by decide)]; exact hrel, h3.mono (by simp [NoB])⟩
  | true =>
    cases hh : thereB M r.tx with
    | true =>
      have h1 : addC M r = 160 := by unfold addC; rw [if_neg (by simp [hB]), if_pos hh]
      exact (add_tx bt bm l r mv lv w ht hm0 hl0 hB (by rw [hrel.has]; exact hh)).mono fun e w' ⟨h2, h3⟩ => ⟨l, by rw [h1]; exact h2, ht.no h3, by rw [hc 160 h1 (by decide)]; exact hrel, h3.mono (by simp [NoB])⟩
    | false =>
      by_cases hf : 64 ≤ M.length
      · have h1 : addC M r = 162 := by unfold addC; rw [if_neg (by simp [hB]), if_neg (by simp [hh]), if_pos hf]
        exact (add_full bt bm l r mv lv w ht hm0 hl0 hB (by rw [hrel.has]; exact hh) (by rw [← hrel.len]; exact hf)).mono fun e w' ⟨h2, h3⟩ => ⟨l, by rw [h1]; exact h2, ht.no h3, by rw [hc 162 h1 (by decide)]; exact hrel, h3.mono (by simp [NoB])⟩
      · have h1 : addC M r = 0 := by unfold addC; rw [if_neg (by simp [hB]), if_neg (by simp [hh]), if_neg hf]
        have h4 : addM M r = M.take (findI M r.tx) ++ [r] ++ M.drop (findI M r.tx) := by unfold addM; rw [if_pos h1]
        refine (add_ok bt bm l r mv lv w ht hm0 hl0 hB (by rw [hrel.has]; exact hh) (by rw [← hrel.len]; omega)).mono fun e w' ⟨h2, m, v, h5, h6⟩ => ⟨_, by rw [h1]; exact h2, h5, ?_, h6⟩
        rw [h4]
        exact hrel.add (x := (r, m, v)) hh
theorem r_add (base bR : Nat) (v : Value) (L : List X) (r : Rw) (mv lv : Value) (w : World) (hr : RAt w base bR v L) (hb0 : base ≤ w.heap.size) (hl : L.length ≤ 4294967296) (hm0 : Sees w cellsI mv r.ms) (hl0 : Sees w cellsL lv r.ls) (hml : r.ms.length ≤ 1099511627776) (hll : r.ls.length ≤ 1099511627776) :
    Calls Try.prog 20 #[.pointer (some ⟨bR, 0, none⟩), rowV r mv lv] w fun e w' => ∃ v' L', e = .returned (.int .i64 (addC (L.map (·.1)) r)) ∧ RAt w' base bR v' L' ∧ L'.map (·.1) = addM (L.map (·.1)) r ∧ Chg (RS bR v) w w' := by
  have hc : ∀ c, addC (L.map (·.1)) r = c → c ≠ 0 → addM (L.map (·.1)) r = L.map (·.1) := fun c h1 h2 => by unfold addM; rw [if_neg (by rw [h1]; exact h2)]
  cases hB : rowB r with
  | false =>
    have h1 : addC (L.map (·.1)) r = 1 := by unfold addC; rw [if_pos hB]
    exact (radd_bad bR r mv lv w hm0 hl0 hml hll hB).mono fun e w' ⟨h2, h3⟩ => ⟨v, L, by rw [h1]; exact h2, hr.no h3, (hc 1 h1 (by decide)).symm, h3.mono (by simp [NoB])⟩
  | true =>
    cases hh : thereB (L.map (·.1)) r.tx with
    | true =>
      have h1 : addC (L.map (·.1)) r = 160 := by unfold addC; rw [if_neg (by simp [hB]), if_pos hh]
      exact (radd_tx base bR v L r mv lv w hr hb0 hm0 hl0 (by omega) hB hh).mono fun e w' ⟨h2, h3⟩ => ⟨v, L, by rw [h1]; exact h2, hr.no h3, (hc 160 h1 (by decide)).symm, h3.mono (by simp [NoB])⟩
    | false =>
      by_cases hf : 64 ≤ L.length
      · have h1 : addC (L.map (·.1)) r = 162 := by unfold addC; rw [if_neg (by simp [hB]), if_neg (by simp [hh]), if_pos (by rw [List.length_map]; exact hf)]
        exact (radd_full base bR v L r mv lv w hr hb0 hm0 hl0 (by omega) hB hh hf).mono fun e w' ⟨h2, h3⟩ => ⟨v, L, by rw [h1]; exact h2, hr.no h3, (hc 162 h1 (by decide)).symm, h3.mono (by simp [NoB])⟩
      · have h1 : addC (L.map (·.1)) r = 0 := by unfold addC; rw [if_neg (by simp [hB]), if_neg (by simp [hh]), if_neg (by rw [List.length_map]; exact hf)]
        have h4 : addM (L.map (·.1)) r = (L.map (·.1)).take (findI (L.map (·.1)) r.tx) ++ [r] ++ (L.map (·.1)).drop (findI (L.map (·.1)) r.tx) := by unfold addM; rw [if_pos h1]
        refine (radd_ok base bR v L r mv lv w hr hb0 hm0 hl0 (by omega) hB hh).mono fun e w' ⟨h2, v', y, hy, h5, h6⟩ => ⟨v', _, by rw [h1]; exact h2, h5, ?_, h6.mono (fun b _ e => .inl e)⟩
        rw [h4, List.map_append, List.map_append, List.map_take, List.map_drop, List.map_singleton, hy]
theorem t_put (bt bm : Nat) (l : List (Int × X)) (M : List Rw) (r : Rw) (mv lv : Value) (w : World) (ht : TAt w bt bm l) (hrel : Rel l M) (hm0 : Sees w cellsI mv r.ms) (hl0 : Sees w cellsL lv r.ls) (hml : r.ms.length ≤ 1099511627776) (hll : r.ls.length ≤ 1099511627776) :
    Calls Try.prog 16 #[.pointer (some ⟨bt, 0, none⟩), rowV r mv lv] w fun e w' => ∃ l', e = .returned (.int .i64 (putC M r)) ∧ TAt w' bt bm l' ∧ Rel l' (putM M r) ∧ Chg (· = bm) w w' := by
  have hc : ∀ c, putC M r = c → c ≠ 0 → putM M r = M := fun c h1 h2 => by unfold putM; rw [if_neg (by rw [h1]; exact h2)]
  cases hB : rowB r with
  | false =>
    have h1 : putC M r = 1 := by unfold putC; rw [if_pos hB]
    exact (put_bad bt r mv lv w hm0 hl0 hml hll hB).mono fun e w' ⟨h2, h3⟩ => ⟨l, by rw [h1]; exact h2, ht.no h3, by rw [hc 1 h1 (by decide)]; exact hrel, h3.mono (by simp [NoB])⟩
  | true =>
    cases hh : thereB M r.tx with
    | false =>
      have h1 : putC M r = 160 := by unfold putC; rw [if_neg (by simp [hB]), if_pos hh]
      exact (put_no bt bm l r mv lv w ht hm0 hl0 hB (by rw [hrel.has]; exact hh)).mono fun e w' ⟨h2, h3⟩ => ⟨l, by rw [h1]; exact h2, ht.no h3, by rw [hc 160 h1 (by decide)]; exact hrel, h3.mono (by simp [NoB])⟩
    | true =>
      have h1 : putC M r = 0 := by unfold putC; rw [if_neg (by simp [hB]), if_neg (by simp [hh])]
      have h4 : putM M r = M.set (findI M r.tx) r := by unfold putM; rw [if_pos h1]
      refine (put_ok bt bm l r mv lv w ht hm0 hl0 hB (by rw [hrel.has]; exact hh)).mono fun e w' ⟨h2, m, v, h5, h6⟩ => ⟨_, by rw [h1]; exact h2, h5, ?_, h6⟩
      rw [h4]
      exact hrel.put (x := (r, m, v)) hh
theorem r_put (base bR : Nat) (v : Value) (L : List X) (r : Rw) (mv lv : Value) (w : World) (hr : RAt w base bR v L) (hl : L.length ≤ 4294967296) (hm0 : Sees w cellsI mv r.ms) (hl0 : Sees w cellsL lv r.ls) (hml : r.ms.length ≤ 1099511627776) (hll : r.ls.length ≤ 1099511627776) :
    Calls Try.prog 21 #[.pointer (some ⟨bR, 0, none⟩), rowV r mv lv] w fun e w' => ∃ v' L', e = .returned (.int .i64 (putC (L.map (·.1)) r)) ∧ RAt w' base bR v' L' ∧ L'.map (·.1) = putM (L.map (·.1)) r ∧ Chg (RS bR v) w w' := by
  have hc : ∀ c, putC (L.map (·.1)) r = c → c ≠ 0 → putM (L.map (·.1)) r = L.map (·.1) := fun c h1 h2 => by unfold putM; rw [if_neg (by rw [h1]; exact h2)]
  cases hB : rowB r with
  | false =>
    have h1 : putC (L.map (·.1)) r = 1 := by unfold putC; rw [if_pos hB]
    exact (rput_bad bR r mv lv w hm0 hl0 hml hll hB).mono fun e w' ⟨h2, h3⟩ => ⟨v, L, by rw [h1]; exact h2, hr.no h3, (hc 1 h1 (by decide)).symm, h3.mono (by simp [NoB])⟩
  | true =>
    cases hh : thereB (L.map (·.1)) r.tx with
    | false =>
      have h1 : putC (L.map (·.1)) r = 160 := by unfold putC; rw [if_neg (by simp [hB]), if_pos hh]
      exact (rput_no base bR v L r mv lv w hr hm0 hl0 (by omega) hB hh).mono fun e w' ⟨h2, h3⟩ => ⟨v, L, by rw [h1]; exact h2, hr.no h3, (hc 160 h1 (by decide)).symm, h3.mono (by simp [NoB])⟩
    | true =>
      have h1 : putC (L.map (·.1)) r = 0 := by unfold putC; rw [if_neg (by simp [hB]), if_neg (by simp [hh])]
      have h4 : putM (L.map (·.1)) r = (L.map (·.1)).set (findI (L.map (·.1)) r.tx) r := by unfold putM; rw [if_pos h1]
      refine (rput_ok base bR v L r mv lv w hr hm0 hl0 hl hB hh).mono fun e w' ⟨h2, y, hy, h5, h6⟩ => ⟨v, _, by rw [h1]; exact h2, h5, ?_, h6.mono (fun b _ e => .inr e)⟩
      rw [h4, List.map_set, hy]
theorem t_drop (bt bm : Nat) (l : List (Int × X)) (M : List Rw) (n : Int) (w : World) (ht : TAt w bt bm l) (hrel : Rel l M) (hn : I64 n) :
    Calls Try.prog 23 #[.pointer (some ⟨bt, 0, none⟩), .int .i64 n] w fun e w' => ∃ l', e = .returned (.bool (thereB M n)) ∧ TAt w' bt bm l' ∧ Rel l' (dropM M n) ∧ Chg (· = bm) w w' := by
  refine (drop_any bt bm l n w ht hn).mono fun e w' ⟨h1, h2, h3⟩ => ⟨_, by rw [← hrel.has]; exact h1, h2, ?_, h3⟩
  unfold dropM
  cases hh : thereB M n with
  | true => rw [if_pos rfl]; exact hrel.drop hh
  | false => rw [if_neg (by simp), hrel.drop_no hh]; exact hrel
theorem r_drop (base bR : Nat) (v : Value) (L : List X) (n : Int) (w : World) (hr : RAt w base bR v L) (hb0 : base ≤ w.heap.size) (hl : L.length ≤ 4294967296) :
    Calls Try.prog 24 #[.pointer (some ⟨bR, 0, none⟩), .int .i64 n] w fun e w' => ∃ v' L', e = .returned (.bool (thereB (L.map (·.1)) n)) ∧ RAt w' base bR v' L' ∧ L'.map (·.1) = dropM (L.map (·.1)) n ∧ Chg (RS bR v) w w' := by
  cases hh : thereB (L.map (·.1)) n with
  | true =>
    refine (rdrop_any base bR v L n w hr hb0 hl hh).mono fun e w' ⟨h1, v', h2, h3⟩ => ⟨v', _, h1, h2, ?_, h3.mono (fun b _ e => .inl e)⟩
    unfold dropM
    rw [if_pos hh, List.map_append, List.map_take, List.map_drop]
  | false =>
    refine (rdrop_no base bR v L n w hr hl hh).mono fun e w' ⟨h1, h2⟩ => ⟨v, L, h1, hr.no h2, ?_, h2.mono (by simp [NoB])⟩
    unfold dropM
    rw [if_neg (by simp [hh])]
theorem addM_len (M : List Rw) (r : Rw) (h : M.length ≤ 64) : (addM M r).length ≤ 64 := by
  unfold addM
  split
  · rename_i h1
    have h2 : ¬ 64 ≤ M.length := by
      intro h3
      unfold addC at h1
      repeat' split at h1
      all_goals omega
    have := findI_le M r.tx
    simp
    omega
  · exact h
theorem putM_len (M : List Rw) (r : Rw) : (putM M r).length = M.length := by
  unfold putM
  split <;> simp
theorem dropM_len (M : List Rw) (n : Int) : (dropM M n).length ≤ M.length := by
  unfold dropM
  split
  · simp
    omega
  · exact Nat.le_refl _
end Go.Proofs.Ytpjmamobiancdaa
