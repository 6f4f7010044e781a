/- What the coordinator's functions do, each as one step on data. Conditions: none but the entries' own. -/
import Derived.Test.YthpnhndligblaaaDt
import Derived.Test.YthpnhndligblaaaCq
namespace Go.Proofs.Ythpnhndligblaaa
open Go.RowKit Go.Maps Go.BigFrame
/-- The blocks that are the coordinator's. -/
def owned (bm : Nat) (l : List Ep) (k : Nat) : Prop := k = bm ∨ ∃ p ∈ l, k ∈ blocks p
def Out (w w' : World) (bc bm : Nat) (me : Int) (l : List Ep) (es' : List En) : Prop :=
  ∃ l', CAt w' bc bm me l' ∧ (∀ p ∈ l', OkP me p) ∧ esOf l' = es' ∧ Chg (owned bm l) w w' ∧ ∀ k, owned bm l' k → owned bm l k ∨ w.heap.size ≤ k
theorem CAt.own_lt {w : World} {bc bm : Nat} {me : Int} {l : List Ep} (h : CAt w bc bm me l) {k : Nat} (hk : owned bm l k) : k < w.heap.size := by
  rcases hk with rfl | ⟨p, hp, hk⟩
  · exact h.mp.lt
  · exact (h.own p hp).lt k hk
theorem Out.same {w w' : World} {bc bm : Nat} {me : Int} {l : List Ep} (h : CAt w bc bm me l) (hok : ∀ p ∈ l, OkP me p) (c : Chg NoB w w') : Out w w' bc bm me l (esOf l) :=
  ⟨l, h.no c, hok, rfl, c.mono (by simp [NoB]), fun _ hk => .inl hk⟩
theorem Out.rep {w w' : World} {bc bm : Nat} {me : Int} {l1 l2 : List Ep} {p p' : Ep} {e' : En} (h : CAt w bc bm me (l1 ++ p :: l2)) (hok : ∀ q ∈ l1 ++ p :: l2, OkP me q) (h' : CAt w' bc bm me (l1 ++ p' :: l2)) (ok' : OkP me p') (he : p'.e = e') (c : Chg (· ∈ blocks p) w w') (bl : ∀ k ∈ blocks p', k ∈ blocks p ∨ w.heap.size ≤ k) :
    Out w w' bc bm me (l1 ++ p :: l2) (repE (esOf (l1 ++ p :: l2)) p.e.tx e') := by
  refine ⟨_, h', fun q hq => ?_, rep_mid h.nodup he, c.mono (fun k _ hk => .inr ⟨p, by simp, hk⟩), fun k hk => ?_⟩
  · rcases List.mem_append.1 hq with hq | hq
    · exact hok q (List.mem_append_left _ hq)
    · rcases List.mem_cons.1 hq with rfl | hq
      · exact ok'
      · exact hok q (by simp [hq])
  · rcases hk with rfl | ⟨q, hq, hk⟩
    · exact .inl (.inl rfl)
    · rcases List.mem_append.1 hq with hq | hq
      · exact .inl (.inr ⟨q, List.mem_append_left _ hq, hk⟩)
      · rcases List.mem_cons.1 hq with rfl | hq
        · rcases bl k hk with h1 | h1
          · exact .inl (.inr ⟨p, by simp, h1⟩)
          · exact .inr h1
        · exact .inl (.inr ⟨q, by simp [hq], hk⟩)
theorem Out.del {w w' : World} {bc bm : Nat} {me : Int} {l1 l2 : List Ep} {p : Ep} (h : CAt w bc bm me (l1 ++ p :: l2)) (hok : ∀ q ∈ l1 ++ p :: l2, OkP me q) (h' : CAt w' bc bm me (l1 ++ l2)) (c : Chg (owned bm (l1 ++ p :: l2)) w w') :
    Out w w' bc bm me (l1 ++ p :: l2) (delE (esOf (l1 ++ p :: l2)) p.e.tx) := by
  have hs : ∀ q ∈ l1 ++ l2, q ∈ l1 ++ p :: l2 := fun q hq => by
    rcases List.mem_append.1 hq with hq | hq
    · exact List.mem_append_left _ hq
    · simp [hq]
  exact ⟨_, h', fun q hq => hok q (hs q hq), del_mid h.nodup, c, fun k hk => .inl (hk.imp id (fun ⟨q, hq, hk⟩ => ⟨q, hs q hq, hk⟩))⟩
theorem Out.mono_eq {w w' : World} {bc bm : Nat} {me : Int} {l : List Ep} {es es' : List En} (h : Out w w' bc bm me l es) (e : es = es') : Out w w' bc bm me l es' := e ▸ h
theorem own_bl {bm : Nat} {l1 l2 : List Ep} {p : Ep} {k : Nat} (h : k ∈ blocks p) : owned bm (l1 ++ p :: l2) k := .inr ⟨p, by simp, h⟩
theorem OkP.len {me : Int} {p : Ep} (h : OkP me p) : p.e.mem.length ≤ 8 ∧ p.e.yes.length ≤ 8 ∧ p.e.aw.length ≤ 8 := ⟨len8 h.mp h.mr, len8 h.yp h.yr, len8 h.ap h.ar⟩
variable {bc bm : Nat} {me : Int} {l : List Ep} {w : World}
theorem open_step (h : CAt w bc bm me l) (hok : ∀ p ∈ l, OkP me p) (tx : Int) :
    Calls Try.prog 7 #[.pointer (some ⟨bc, 0, none⟩), .int .i64 tx] w fun e w' => e = .returned (.int .i64 (openD me (esOf l) tx).1) ∧ Out w w' bc bm me l (openD me (esOf l) tx).2 := by
  unfold openD
  cases hm : mineB me tx with
  | false =>
    rw [if_pos rfl]
    exact (open_bad bc bm me tx l w h hm).mono fun e w' ⟨h1, h2⟩ => ⟨h1, .same h hok h2⟩
  | true =>
    rw [if_neg (by simp)]
    cases hf : findE (esOf l) tx with
    | some e =>
      obtain ⟨l1, l2, p, rfl, rfl, rfl⟩ := find_some hf
      simp only [Option.isSome_some, if_true]
      exact (open_tx bc bm me l1 l2 p w h hm).mono fun e w' ⟨h1, h2⟩ => ⟨h1, .same h hok h2⟩
    | none =>
      have hno := find_none hf
      rw [if_neg (by simp)]
      by_cases h64 : 64 ≤ l.length
      · rw [if_pos (by simpa using h64)]
        exact (open_full bc bm me tx l w h hm hno h64).mono fun e w' ⟨h1, h2⟩ => ⟨h1, .same h hok h2⟩
      · rw [if_neg (by simpa using h64)]
        refine (open_ok bc bm me tx l w h hm hno (by omega)).mono ?_
        rintro e w' ⟨h1, p, hp, h2, hc, hb⟩
        refine ⟨h1, l ++ [p], h2, fun q hq => ?_, by unfold esOf; rw [List.map_append, ← hp]; rfl, hc.mono (fun k _ hk => .inl hk), fun k hk => ?_⟩
        · rcases List.mem_append.1 hq with hq | hq
          · exact hok q hq
          · rw [List.mem_singleton] at hq
            subst hq
            constructor <;> rw [hp] <;> simp [newE, hm]
        · rcases hk with rfl | ⟨q, hq, hk⟩
          · exact .inl (.inl rfl)
          · rcases List.mem_append.1 hq with hq | hq
            · exact .inl (.inr ⟨q, hq, hk⟩)
            · rw [List.mem_singleton] at hq
              subst hq
              exact .inr (hb k hk)
theorem enlist_step (h : CAt w bc bm me l) (hok : ∀ p ∈ l, OkP me p) (tx node : Int) (ht : I64 tx) :
    Calls Try.prog 8 #[.pointer (some ⟨bc, 0, none⟩), .int .i64 tx, .int .i64 node] w fun e w' => e = .returned (.int .i64 (enlistD (esOf l) tx node).1) ∧ Out w w' bc bm me l (enlistD (esOf l) tx node).2 := by
  unfold enlistD
  cases hf : findE (esOf l) tx with
  | none => exact (enlist_none bc bm me tx node l w h ht (find_none hf)).mono fun e w' ⟨h1, h2⟩ => ⟨h1, .same h hok (by rw [h2]; exact Chg.refl _ _)⟩
  | some e =>
    obtain ⟨l1, l2, p, rfl, rfl, rfl⟩ := find_some hf
    have hp := hok p (by simp)
    simp only
    by_cases hn : node < 0 ∨ 8 ≤ node
    · rw [if_pos hn]
      exact (enlist_arg bc bm me node l1 l2 p w h ht hn).mono fun e w' ⟨h1, h2⟩ => ⟨h1, .same h hok (by rw [h2]; exact Chg.refl _ _)⟩
    · rw [if_neg hn]
      by_cases hph : p.e.phase = 3
      · rw [if_neg (by simpa using hph)]
        refine (enlist_ok bc bm me node l1 l2 p w h ht (by omega) (by omega) hph (pw_le hp.mp) (by have := hp.len; omega)).mono ?_
        rintro e w' ⟨h1, p', he, hao, h2, hc, hb⟩
        refine ⟨h1, .rep h hok h2 ?_ he hc hb⟩
        constructor
        · rw [he]; exact hp.mine
        · rw [he]; exact add_pw hp.mp
        · rw [he]
          intro n hn'
          rcases mem_addI.1 hn' with rfl | hn'
          · omega
          · exact hp.mr n hn'
        · rw [he]; exact hp.yp
        · rw [he]; exact hp.yr
        · rw [he]; exact hp.ap
        · rw [he]; exact hp.ar
        · rw [he]; exact hp.su
        · rw [he, hao]; exact hp.ao
        · rw [he]; exact hp.ay
        · rw [he]; exact hp.y0
      · rw [if_pos hph]
        exact (enlist_state bc bm me node l1 l2 p w h ht (by omega) (by omega) hph).mono fun e w' ⟨h1, h2⟩ => ⟨h1, .same h hok (by rw [h2]; exact Chg.refl _ _)⟩
theorem ask_step (h : CAt w bc bm me l) (hok : ∀ p ∈ l, OkP me p) (tx : Int) (ht : I64 tx) :
    Calls Try.prog 9 #[.pointer (some ⟨bc, 0, none⟩), .int .i64 tx] w fun e w' => ∃ v, e = .returned (.tuple #[v, .int .i64 (askD me (esOf l) tx).1]) ∧ DealIs w' w.heap.size v (askD me (esOf l) tx).2.1 ∧ Out w w' bc bm me l (askD me (esOf l) tx).2.2 := by
  unfold askD
  cases hf : findE (esOf l) tx with
  | none => exact (ask_none bc bm me tx l w h ht (find_none hf)).mono fun e w' ⟨v, h1, h2, h3⟩ => ⟨v, h1, h2, .same h hok h3⟩
  | some e =>
    obtain ⟨l1, l2, p, rfl, rfl, rfl⟩ := find_some hf
    have hp := hok p (by simp)
    simp only
    by_cases hph : p.e.phase = 3
    · rw [if_neg (by simpa using hph)]
      by_cases hm : p.e.mem = []
      · rw [if_pos hm]
        exact (ask_empty bc bm me l1 l2 p w h ht hph hm).mono fun e w' ⟨v, h1, h2, h3, hc⟩ => ⟨v, h1, h2, .del h hok h3 (hc.mono (fun k _ hk => .inl hk))⟩
      · rw [if_neg hm]
        refine (ask_ok bc bm me l1 l2 p w h ht hph hm hp.mp hp.mr (by have := hp.len; omega)).mono ?_
        rintro e w' ⟨v, h1, h2, p', he, hao, h3, hc, hb⟩
        refine ⟨v, h1, h2, .rep h hok h3 ?_ he hc hb⟩
        have hs : p.e.sure = false := by
          cases hs : p.e.sure with
          | false => rfl
          | true => have := hp.su hs; omega
        constructor
        · rw [he]; exact hp.mine
        · rw [he]; exact hp.mp
        · rw [he]; exact hp.mr
        · rw [he]; exact hp.yp
        · rw [he]; exact hp.yr
        · rw [he]; exact hp.mp
        · rw [he]; exact hp.mr
        · rw [he]; intro h; rw [hs] at h; cases h
        · intro _; exact hao
        · rw [he]; intro _ n _; show n ∉ p.e.yes; rw [hp.y0 hph]; simp
        · rw [he]; intro h; exact absurd h (by simp)
    · rw [if_pos hph]
      exact (ask_state bc bm me l1 l2 p w h ht hph).mono fun e w' ⟨v, h1, h2, h3⟩ => ⟨v, h1, h2, .same h hok h3⟩
theorem sure_step (h : CAt w bc bm me l) (hok : ∀ p ∈ l, OkP me p) (tx : Int) (ht : I64 tx) :
    Calls Try.prog 11 #[.pointer (some ⟨bc, 0, none⟩), .int .i64 tx] w fun e w' => ∃ v, e = .returned v ∧ DealIs w' w.heap.size v (sureD me (esOf l) tx).1 ∧ Out w w' bc bm me l (sureD me (esOf l) tx).2 := by
  unfold sureD
  cases hf : findE (esOf l) tx with
  | none => exact (sure_none bc bm me tx l w h ht (find_none hf)).mono fun e w' ⟨v, h1, h2, h3⟩ => ⟨v, h1, h2, .same h hok h3⟩
  | some e =>
    obtain ⟨l1, l2, p, rfl, rfl, rfl⟩ := find_some hf
    have hp := hok p (by simp)
    simp only
    by_cases hc : p.e.phase ≠ 5 ∨ p.e.sure = true
    · rw [if_pos hc]
      exact (sure_no bc bm me l1 l2 p w h ht hc).mono fun e w' ⟨v, h1, h2, h3⟩ => ⟨v, h1, h2, .same h hok h3⟩
    · rw [if_neg hc]
      have h5 : p.e.phase = 5 := Decidable.byContradiction fun h => hc (.inl h)
      have hs : p.e.sure = false := by
        cases hs : p.e.sure with
        | false => rfl
        | true => exact absurd (.inr hs) hc
      obtain ⟨ba, hba⟩ := Option.ne_none_iff_exists'.1 (hp.ao (by omega))
      have hl := hp.len
      refine (sure_ok bc bm me l1 l2 p ba w h ht h5 hs hba (by omega) (by omega)).mono ?_
      rintro e w' ⟨v, h1, h2, p', he, hao, h3, hc, hb⟩
      refine ⟨v, h1, h2, .rep h hok h3 ?_ he hc hb⟩
      constructor
      · rw [he]; exact hp.mine
      · rw [he]; exact hp.mp
      · rw [he]; exact hp.mr
      · rw [he]; exact hp.yp
      · rw [he]; exact hp.yr
      · rw [he]; exact hp.ap
      · rw [he]; exact hp.ar
      · rw [he]; intro _; exact h5
      · rw [he, hao]; exact hp.ao
      · rw [he]; exact hp.ay
      · rw [he]; exact hp.y0
theorem heard_frm {me : Int} {m : Mg} {ks : List Int} (h : heardB me m ks = true) : I64 m.frm ∧ 0 ≤ m.frm ∧ m.frm < 8 := by
  simp only [heardB, mayM, nodeB, Bool.and_eq_true, decide_eq_true_eq] at h
  unfold I64
  omega
theorem ack_step (h : CAt w bc bm me l) (hok : ∀ p ∈ l, OkP me p) (m : Mg) (mv : Value) (hv : Sees w cellsI mv m.ms) (hl : m.ms.length ≤ 1099511627776) :
    Calls Try.prog 14 #[.pointer (some ⟨bc, 0, none⟩), msgV m mv] w fun e w' => ∃ v, e = .returned v ∧ DealIs w' w.heap.size v (ackD me (esOf l) m).1 ∧ Out w w' bc bm me l (ackD me (esOf l) m).2 := by
  unfold ackD
  cases hB : heardB me m [7] with
  | false =>
    rw [if_pos rfl]
    exact (ack_deaf bc _ me w h.hd m mv hv hl hB).mono fun e w' ⟨v, h1, h2, h3⟩ => ⟨v, h1, h2, .same h hok h3⟩
  | true =>
    rw [if_neg (by simp)]
    have hfr := (heard_frm hB).1
    cases hf : findE (esOf l) m.tx with
    | none => exact (ack_none bc bm me l w h m mv hv hl hB (find_none hf)).mono fun e w' ⟨v, h1, h2, h3⟩ => ⟨v, h1, h2, .same h hok h3⟩
    | some e =>
      obtain ⟨l1, l2, p, rfl, rfl, htx⟩ := find_some hf
      have hp := hok p (by simp)
      simp only
      cases hs : p.e.sure with
      | false =>
        rw [if_pos rfl]
        exact (ack_unsure bc bm me l1 l2 p w h m mv hv hl hB htx.symm hs).mono fun e w' ⟨v, h1, h2, h3⟩ => ⟨v, h1, h2, .same h hok h3⟩
      | true =>
        rw [if_neg (by simp)]
        have h5 := hp.su hs
        obtain ⟨ba, hba⟩ := Option.ne_none_iff_exists'.1 (hp.ao (by omega))
        by_cases hd : dropI p.e.aw m.frm = []
        · rw [if_neg (by simpa using hd)]
          refine (ack_last bc bm me l1 l2 p w h m mv hv hl ba hba hB htx.symm hs hfr hd).mono ?_
          rintro e w' ⟨v, h1, h2, h3, hc⟩
          rw [← htx]
          exact ⟨v, h1, h2, .del h hok h3 (hc.mono (fun k _ hk => hk.imp id (fun hk => ⟨p, by simp, hk⟩)))⟩
        · rw [if_pos hd]
          refine (ack_more bc bm me l1 l2 p w h m mv hv hl ba hba hB htx.symm hs hfr hd).mono ?_
          rintro e w' ⟨v, h1, h2, h3, hc⟩
          rw [← htx]
          refine ⟨v, h1, h2, .rep (p' := awE p (dropI p.e.aw m.frm)) h hok h3 ?_ (by rw [← hs]; rfl) hc (fun k hk => .inl hk)⟩
          exact ⟨hp.mine, hp.mp, hp.mr, hp.yp, hp.yr, drop_pw hp.ap, fun n hn => hp.ar n (mem_dropI.1 hn).1, hp.su, hp.ao, fun h4 n hn => hp.ay h4 n (mem_dropI.1 hn).1, hp.y0⟩
theorem quit_step (h : CAt w bc bm me l) (hok : ∀ p ∈ l, OkP me p) (tx : Int) (ht : I64 tx) :
    Calls Try.prog 16 #[.pointer (some ⟨bc, 0, none⟩), .int .i64 tx] w fun e w' => ∃ v, e = .returned (.tuple #[v, .int .i64 (quitD me (esOf l) tx).1]) ∧ DealIs w' w.heap.size v (quitD me (esOf l) tx).2.1 ∧ Out w w' bc bm me l (quitD me (esOf l) tx).2.2 := by
  unfold quitD
  cases hf : findE (esOf l) tx with
  | none => exact (quit_none bc bm me tx l w h ht (find_none hf)).mono fun e w' ⟨v, h1, h2, h3⟩ => ⟨v, h1, h2, .same h hok h3⟩
  | some e =>
    obtain ⟨l1, l2, p, rfl, rfl, rfl⟩ := find_some hf
    have hp := hok p (by simp)
    have hl := hp.len
    simp only
    by_cases h5 : p.e.phase = 5
    · rw [if_pos h5]
      exact (quit_state bc bm me l1 l2 p w h ht h5).mono fun e w' ⟨v, h1, h2, h3⟩ => ⟨v, h1, h2, .same h hok h3⟩
    · rw [if_neg h5]
      exact (quit_ok bc bm me l1 l2 p w h ht h5 (fun h4 => hp.ao (by omega)) (by omega) (by omega) (by omega)).mono fun e w' ⟨v, h1, h2, h3, hc⟩ => ⟨v, h1, h2, .del h hok h3 (hc.mono (fun k _ hk => .inl hk))⟩
theorem inquire_step (h : CAt w bc bm me l) (hok : ∀ p ∈ l, OkP me p) (m : Mg) (mv : Value) (hv : Sees w cellsI mv m.ms) (hl : m.ms.length ≤ 1099511627776) :
    Calls Try.prog 15 #[.pointer (some ⟨bc, 0, none⟩), msgV m mv] w fun e w' => ∃ v, e = .returned v ∧ DealIs w' w.heap.size v (inquireD me (esOf l) m) ∧ Chg NoB w w' := by
  unfold inquireD
  cases hB : heardB me m [8] with
  | false =>
    rw [if_pos rfl]
    exact inquire_deaf bc _ me w h.hd m mv hv hl hB
  | true =>
    rw [if_neg (by simp)]
    cases hf : findE (esOf l) m.tx with
    | none =>
      simp only
      cases hmi : mineB me m.tx with
      | false => rw [if_pos rfl]; exact inquire_other bc bm me l w h m mv hv hl hB (find_none hf) hmi
      | true => rw [if_neg (by simp)]; exact inquire_gone bc bm me l w h m mv hv hl hB (find_none hf) hmi
    | some e =>
      obtain ⟨l1, l2, p, rfl, rfl, htx⟩ := find_some hf
      have hp := hok p (by simp)
      have hl8 := hp.len
      simp only
      cases hs : p.e.sure with
      | false => rw [if_pos rfl]; exact inquire_unsure bc bm me l1 l2 p w h m mv hv hl hB htx.symm hs
      | true => rw [if_neg (by simp)]; exact inquire_sure bc bm me l1 l2 p w h m mv hv hl hB htx.symm hs (by omega)
theorem phase_step (h : CAt w bc bm me l) (tx : Int) (ht : I64 tx) :
    Calls Try.prog 17 #[.pointer (some ⟨bc, 0, none⟩), .int .i64 tx] w fun e w' => e = .returned (.int .i64 (phaseD (esOf l) tx)) ∧ w' = w := by
  unfold phaseD
  cases hf : findE (esOf l) tx with
  | none => exact phase_none bc bm me tx l w h ht (find_none hf)
  | some e =>
    obtain ⟨l1, l2, p, rfl, rfl, rfl⟩ := find_some hf
    exact phase_some bc bm me l1 l2 p w h ht
/-- A step's outcome, with a bound beyond the coordinator's blocks from which on the deal's lie. -/
theorem vote_step (h : CAt w bc bm me l) (hok : ∀ p ∈ l, OkP me p) (m : Mg) (mv : Value) (hv : Sees w cellsI mv m.ms) (hl : m.ms.length ≤ 1099511627776) :
    Calls Try.prog 10 #[.pointer (some ⟨bc, 0, none⟩), msgV m mv] w fun e w' => ∃ v B, e = .returned v ∧ w.heap.size ≤ B ∧ DealIs w' B v (voteD me (esOf l) m).1 ∧
      ∃ l', CAt w' bc bm me l' ∧ (∀ p ∈ l', OkP me p) ∧ esOf l' = (voteD me (esOf l) m).2 ∧ Chg (owned bm l) w w' ∧ (∀ k, owned bm l' k → owned bm l k ∨ w.heap.size ≤ k) ∧ ∀ k, owned bm l' k → k < B := by
  have same : ∀ (e : Ending) (w' : World) (es : List En), es = esOf l → (∃ v, e = .returned v ∧ DealIs w' w.heap.size v noDeal ∧ Chg NoB w w') → ∃ v B, e = .returned v ∧ w.heap.size ≤ B ∧ DealIs w' B v noDeal ∧
      ∃ l', CAt w' bc bm me l' ∧ (∀ p ∈ l', OkP me p) ∧ esOf l' = es ∧ Chg (owned bm l) w w' ∧ (∀ k, owned bm l' k → owned bm l k ∨ w.heap.size ≤ k) ∧ ∀ k, owned bm l' k → k < B := by
    rintro e w' es rfl ⟨v, h1, h2, h3⟩
    exact ⟨v, w.heap.size, h1, Nat.le_refl _, h2, l, h.no h3, hok, rfl, h3.mono (by simp [NoB]), fun _ hk => .inl hk, fun k hk => h.own_lt hk⟩
  unfold voteD
  cases hB : heardB me m [2, 3, 4] with
  | false =>
    rw [if_pos rfl]
    exact (vote_deaf bc _ me w h.hd m mv hv hl hB).mono fun e w' h => same e w' _ rfl h
  | true =>
    rw [if_neg (by simp)]
    obtain ⟨hfr, hf0, hf8⟩ := heard_frm hB
    cases hf : findE (esOf l) m.tx with
    | none => exact (vote_none bc bm me l w h m mv hv hl hB (find_none hf)).mono fun e w' h => same e w' _ rfl h
    | some e =>
      obtain ⟨l1, l2, p, rfl, rfl, htx⟩ := find_some hf
      have hp := hok p (by simp)
      have hlen := hp.len
      simp only
      by_cases hc : p.e.phase ≠ 4 ∨ p.e.aw.contains m.frm = false
      · rw [if_pos hc]
        by_cases h4 : p.e.phase = 4
        · have hna : p.e.aw.contains m.frm = false := hc.elim (fun h => absurd h4 h) id
          obtain ⟨ba, hba⟩ := Option.ne_none_iff_exists'.1 (hp.ao (by omega))
          exact (vote_notaw bc bm me l1 l2 p w h m mv hv hl ba hba hB htx.symm h4 hfr hna).mono fun e w' h => same e w' _ rfl h
        · exact (vote_phase bc bm me l1 l2 p w h m mv hv hl hB htx.symm h4).mono fun e w' h => same e w' _ rfl h
      · rw [if_neg hc]
        have h4 : p.e.phase = 4 := Decidable.byContradiction fun h => hc (.inl h)
        have hin : p.e.aw.contains m.frm = true := by
          cases hh : p.e.aw.contains m.frm with
          | true => rfl
          | false => exact absurd (.inr hh) hc
        obtain ⟨ba, hba⟩ := Option.ne_none_iff_exists'.1 (hp.ao (by omega))
        have hsu : p.e.sure = false := by
          cases hs : p.e.sure with
          | false => rfl
          | true => have := hp.su hs; omega
        have hny : m.frm ∉ p.e.yes := hp.ay h4 _ (by simpa using hin)
        have hk : m.kind = 2 ∨ m.kind = 3 ∨ m.kind = 4 := by
          simp only [heardB, Bool.and_eq_true] at hB
          have := hB.2
          simpa [List.contains_cons] using this
        have rep : ∀ (e : Ending) (w' : World) (v : Value) (d : Dl) (p' : Ep) (B : Nat) (e' : En), e = .returned v → w.heap.size ≤ B → DealIs w' B v d → p'.e = e' → OkP me p' → CAt w' bc bm me (l1 ++ p' :: l2) → Chg (· ∈ blocks p) w w' → (∀ k ∈ blocks p', k ∈ blocks p ∨ w.heap.size ≤ k) → (∀ k ∈ blocks p', k < B) →
            ∃ v B, e = .returned v ∧ w.heap.size ≤ B ∧ DealIs w' B v d ∧ ∃ l', CAt w' bc bm me l' ∧ (∀ p ∈ l', OkP me p) ∧ esOf l' = repE (esOf (l1 ++ p :: l2)) m.tx e' ∧ Chg (owned bm (l1 ++ p :: l2)) w w' ∧ (∀ k, owned bm l' k → owned bm (l1 ++ p :: l2) k ∨ w.heap.size ≤ k) ∧ ∀ k, owned bm l' k → k < B := by
          intro e w' v d p' B e' h1 h2 h3 h4 h5 h6 h7 h8 h9
          obtain ⟨l', a1, a2, a3, a4, a5⟩ := Out.rep h hok h6 h5 h4 h7 h8
          rw [← htx]
          refine ⟨v, B, h1, h2, h3, l1 ++ p' :: l2, h6, ?_, rep_mid h.nodup h4, h7.mono (fun k _ hk => .inr ⟨p, by simp, hk⟩), fun k hk => ?_, fun k hk => ?_⟩
          · intro q hq
            rcases List.mem_append.1 hq with hq | hq
            · exact hok q (List.mem_append_left _ hq)
            · rcases List.mem_cons.1 hq with rfl | hq
              · exact h5
              · exact hok q (by simp [hq])
          · rcases hk with rfl | ⟨q, hq, hk⟩
            · exact .inl (.inl rfl)
            · rcases List.mem_append.1 hq with hq | hq
              · exact .inl (.inr ⟨q, List.mem_append_left _ hq, hk⟩)
              · rcases List.mem_cons.1 hq with rfl | hq
                · exact (h8 k hk).imp (fun h => .inr ⟨p, by simp, h⟩) id
                · exact .inl (.inr ⟨q, by simp [hq], hk⟩)
          · have old : ∀ k, owned bm (l1 ++ p :: l2) k → k < B := fun k hk => Nat.lt_of_lt_of_le (h.own_lt hk) h2
            rcases hk with rfl | ⟨q, hq, hk⟩
            · exact old _ (.inl rfl)
            · rcases List.mem_append.1 hq with hq | hq
              · exact old _ (.inr ⟨q, List.mem_append_left _ hq, hk⟩)
              · rcases List.mem_cons.1 hq with rfl | hq
                · exact h9 k hk
                · exact old _ (.inr ⟨q, by simp [hq], hk⟩)
        have del : ∀ (e : Ending) (w' : World) (d : Dl), (∃ v, e = .returned v ∧ DealIs w' w.heap.size v d ∧ CAt w' bc bm me (l1 ++ l2) ∧ Chg (fun k => k = bm ∨ k ∈ blocks p) w w') →
            ∃ v B, e = .returned v ∧ w.heap.size ≤ B ∧ DealIs w' B v d ∧ ∃ l', CAt w' bc bm me l' ∧ (∀ p ∈ l', OkP me p) ∧ esOf l' = delE (esOf (l1 ++ p :: l2)) m.tx ∧ Chg (owned bm (l1 ++ p :: l2)) w w' ∧ (∀ k, owned bm l' k → owned bm (l1 ++ p :: l2) k ∨ w.heap.size ≤ k) ∧ ∀ k, owned bm l' k → k < B := by
          rintro e w' d ⟨v, h1, h2, h3, hc⟩
          have hs : ∀ q ∈ l1 ++ l2, q ∈ l1 ++ p :: l2 := fun q hq => by
            rcases List.mem_append.1 hq with hq | hq
            · exact List.mem_append_left _ hq
            · simp [hq]
          rw [← htx]
          exact ⟨v, w.heap.size, h1, Nat.le_refl _, h2, l1 ++ l2, h3, fun q hq => hok q (hs q hq), del_mid h.nodup, hc.mono (fun k _ hk => hk.imp id (fun hk => ⟨p, by simp, hk⟩)), fun k hk => .inl (hk.imp id (fun ⟨q, hq, hk⟩ => ⟨q, hs q hq, hk⟩)), fun k hk => h.own_lt (hk.imp id (fun ⟨q, hq, hk⟩ => ⟨q, hs q hq, hk⟩))⟩
        have aw1 : (dropI p.e.aw m.frm).Pairwise (· < ·) := drop_pw hp.ap
        have aw2 : ∀ n ∈ dropI p.e.aw m.frm, 0 ≤ n ∧ n < 8 := fun n hn => hp.ar n (mem_dropI.1 hn).1
        have y1 := ins_pw hp.yp hny
        have y2 : ∀ n ∈ insI p.e.yes (p.e.yes.countP (· < m.frm)) m.frm, 0 ≤ n ∧ n < 8 := fun n hn => by
          rcases mem_insI.1 hn with rfl | hn
          · exact ⟨hf0, hf8⟩
          · exact hp.yr n hn
        rcases hk with hk | hk | hk
        · -- yes
          rw [if_neg (by omega)]
          by_cases hmo : dropI p.e.aw m.frm = []
          · rw [if_neg (by simpa using hmo), if_neg (by rintro ⟨h, _⟩; exact h hk), if_pos hk]
            refine (vote_yes_last bc bm me l1 l2 p w h m mv hv hl ba hba hB htx.symm h4 hfr hin hk hp.yp (by omega) hmo y1 y2).mono ?_
            rintro e w' ⟨v, a1, p', B, a2, a3, a4, a5, a6, a7, a8, a9⟩
            refine rep e w' v _ p' B _ a1 a2 a4 a5 ?_ a7 a8 a9 a3
            constructor <;> rw [a5]
            · exact hp.mine
            · exact hp.mp
            · exact hp.mr
            · exact y1
            · exact y2
            · exact y1
            · exact y2
            · intro _; rfl
            · intro _; exact a6
            · intro h; exact absurd h (by simp)
            · intro h; exact absurd h (by simp)
          · rw [if_pos hmo, if_pos hk]
            refine (vote_yes_more bc bm me l1 l2 p w h m mv hv hl ba hba hB htx.symm h4 hfr hin hk hp.yp (by omega) hmo).mono ?_
            rintro e w' ⟨v, a1, a2, p', a5, a6, a7, a8, a9⟩
            refine rep e w' v _ p' w'.heap.size _ a1 a8.size (a2 _) a5 ?_ a7 a8 a9 (fun k hk => (a7.own p' (by simp)).lt k hk)
            constructor <;> rw [a5]
            · exact hp.mine
            · exact hp.mp
            · exact hp.mr
            · exact y1
            · exact y2
            · exact aw1
            · exact aw2
            · exact hp.su
            · intro _; exact a6
            · intro _ n hn hn2
              rcases mem_insI.1 hn2 with rfl | hn2
              · exact (mem_dropI.1 hn).2 rfl
              · exact hp.ay h4 n (mem_dropI.1 hn).1 hn2
            · intro h; exact absurd (h4.symm.trans h) (by simp)
        · -- read
          rw [if_neg (by omega)]
          by_cases hmo : dropI p.e.aw m.frm = []
          · rw [if_neg (by simpa using hmo)]
            by_cases hye : p.e.yes = []
            · rw [if_pos ⟨by omega, hye⟩]
              exact (vote_read_empty bc bm me l1 l2 p w h m mv hv hl ba hba hB htx.symm h4 hfr hin hk hmo hye).mono fun e w' h => del e w' _ h
            · rw [if_neg (by rintro ⟨_, h⟩; exact hye h), if_neg (by omega)]
              refine (vote_read_last bc bm me l1 l2 p w h m mv hv hl ba hba hB htx.symm h4 hfr hin hk hmo hye hp.yp hp.yr (by omega)).mono ?_
              rintro e w' ⟨v, a1, p', B, a2, a3, a4, a5, a6, a7, a8, a9⟩
              refine rep e w' v _ p' B _ a1 a2 a4 a5 ?_ a7 a8 a9 a3
              constructor <;> rw [a5]
              · exact hp.mine
              · exact hp.mp
              · exact hp.mr
              · exact hp.yp
              · exact hp.yr
              · exact hp.yp
              · exact hp.yr
              · intro _; rfl
              · intro _; exact a6
              · intro h; exact absurd h (by simp)
              · intro h; exact absurd h (by simp)
          · rw [if_pos hmo, if_neg (by omega)]
            refine (vote_read_more bc bm me l1 l2 p w h m mv hv hl ba hba hB htx.symm h4 hfr hin hk hmo).mono ?_
            rintro e w' ⟨v, a1, a2, a7, a8⟩
            refine rep e w' v _ (awE p (dropI p.e.aw m.frm)) w.heap.size _ a1 (Nat.le_refl _) a2 rfl ?_ a7 a8 (fun k hk => .inl hk) (fun k hk => (h.own p (by simp)).lt k hk)
            exact ⟨hp.mine, hp.mp, hp.mr, hp.yp, hp.yr, aw1, aw2, hp.su, hp.ao, fun h4 n hn => hp.ay h4 n (mem_dropI.1 hn).1, hp.y0⟩
        · -- no
          rw [if_pos hk]
          refine (vote_giveup bc bm me l1 l2 p w h m mv hv hl ba hba hB htx.symm h4 hfr hin hk (by omega) (by omega) (by omega)).mono fun e w' h => del e w' _ h
end Go.Proofs.Ythpnhndligblaaa
