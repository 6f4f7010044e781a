/- The reference's 'first': the next one that is due. Conditions: lists of at most 2^40 alarms. -/
import Derived.Test.YtgpholdeiahldaaRf3
import Derived.Test.YtgpholdeiahldaaRow2
namespace Go.Proofs.Ytgpholdeiahldaa
open Go.RowKit Go.Maps
/-- Not heard, and its time has come. -/
def live (L : List Alarm) (hs : List Bool) (now : Int) (j : Nat) (a : Alarm) : Prop := L[j]? = some a ∧ hs[j]? = some false ∧ a.at_ ≤ now
/-- b is the best of the first k. -/
def BestAt (L : List Alarm) (hs : List Bool) (now : Int) (k : Nat) (b : Int) : Prop :=
  (b = -1 ∧ ∀ j a, j < k → ¬ live L hs now j a) ∨
  ∃ n a, n < k ∧ b = (n : Int) ∧ live L hs now n a ∧ ∀ j c, j < k → live L hs now j c → a.at_ < c.at_ ∨ (a.at_ = c.at_ ∧ n ≤ j)
theorem BestAt.skip {L : List Alarm} {hs : List Bool} {now : Int} {k : Nat} {b : Int} (h : BestAt L hs now k b) (hn : ∀ a, ¬ live L hs now k a) : BestAt L hs now (k + 1) b := by
  rcases h with ⟨rfl, h⟩ | ⟨n, a, h1, rfl, h2, h3⟩
  · refine .inl ⟨rfl, fun j a hj hl => ?_⟩
    rcases Nat.lt_succ_iff_lt_or_eq.1 hj with h4 | rfl
    · exact h j a h4 hl
    · exact hn a hl
  · refine .inr ⟨n, a, by omega, rfl, h2, fun j c hj hl => ?_⟩
    rcases Nat.lt_succ_iff_lt_or_eq.1 hj with h4 | rfl
    · exact h3 j c h4 hl
    · exact absurd hl (hn c)
theorem BestAt.first {L : List Alarm} {hs : List Bool} {now : Int} {k : Nat} {a : Alarm} (h : BestAt L hs now k (-1)) (hl : live L hs now k a) : BestAt L hs now (k + 1) (k : Int) := by
  rcases h with ⟨_, h⟩ | ⟨n, a, h1, h0, h2, h3⟩
  · refine .inr ⟨k, a, by omega, rfl, hl, fun j c hj hc => ?_⟩
    rcases Nat.lt_succ_iff_lt_or_eq.1 hj with h4 | rfl
    · exact absurd hc (h j c h4)
    · obtain rfl : a = c := Option.some.inj (hl.1.symm.trans hc.1)
      exact .inr ⟨rfl, Nat.le_refl _⟩
  · omega
theorem BestAt.better {L : List Alarm} {hs : List Bool} {now : Int} {k n : Nat} {a c : Alarm} (h : BestAt L hs now k (n : Int)) (hn : L[n]? = some a) (hl : live L hs now k c) (hlt : c.at_ < a.at_) : BestAt L hs now (k + 1) (k : Int) := by
  rcases h with ⟨h0, _⟩ | ⟨n', a', h1, h0, h2, h3⟩
  · omega
  · obtain rfl : n = n' := by omega
    obtain rfl : a = a' := Option.some.inj (hn.symm.trans h2.1)
    refine .inr ⟨k, c, by omega, rfl, hl, fun j e hj he => ?_⟩
    rcases Nat.lt_succ_iff_lt_or_eq.1 hj with h4 | rfl
    · rcases h3 j e h4 he with h5 | ⟨h5, _⟩
      · exact .inl (by omega)
      · exact .inl (by omega)
    · obtain rfl : c = e := Option.some.inj (hl.1.symm.trans he.1)
      exact .inr ⟨rfl, Nat.le_refl _⟩
theorem BestAt.stay {L : List Alarm} {hs : List Bool} {now : Int} {k n : Nat} {a c : Alarm} (h : BestAt L hs now k (n : Int)) (hn : L[n]? = some a) (hl : L[k]? = some c) (hlt : ¬ c.at_ < a.at_) : BestAt L hs now (k + 1) (n : Int) := by
  rcases h with ⟨h0, _⟩ | ⟨n', a', h1, h0, h2, h3⟩
  · omega
  · obtain rfl : n = n' := by omega
    obtain rfl : a = a' := Option.some.inj (hn.symm.trans h2.1)
    refine .inr ⟨n, a, by omega, rfl, h2, fun j e hj he => ?_⟩
    rcases Nat.lt_succ_iff_lt_or_eq.1 hj with h4 | rfl
    · exact h3 j e h4 he
    · obtain rfl : c = e := Option.some.inj (hl.symm.trans he.1)
      rcases Int.lt_or_eq_of_le (Int.not_lt.1 hlt) with h6 | h6
      · exact .inl h6
      · exact .inr ⟨h6, by omega⟩
theorem BestAt.cases {L : List Alarm} {hs : List Bool} {now : Int} {k : Nat} {b : Int} (h : BestAt L hs now k b) : b = -1 ∨ ∃ n a, n < k ∧ b = (n : Int) ∧ L[n]? = some a := by
  rcases h with ⟨h0, _⟩ | ⟨n', a', h1, h0, h2, h3⟩
  · exact .inl h0
  · exact .inr ⟨n', a', h1, h0, h2.1⟩
def cellsB (b : Bool) : List Value := [.bool b]
/-- A slice of bools that owns its row. -/
abbrev BRow (w : World) (base : Nat) (v : Value) (l : List Bool) : Prop := RowOf w base 4 1 cellsB v l
theorem cellsB_len (a : Bool) : (cellsB a).length = 1 := rfl
set_option maxHeartbeats 4000000 in
set_option maxRecDepth 100000 in
theorem first_any (bR : Nat) (v : Value) (L : List Alarm) (base gh caph : Nat) (hs : List Bool) (now : Int) (w : World) (hr : RAt w bR v L) (hh : BRow w base (.slice (some ⟨gh, 0, none⟩) L.length caph) hs) (hn : hs.length = L.length) (hl : L.length ≤ 1099511627776) :
    Calls Try.prog 29 #[.pointer (some ⟨bR, 0, none⟩), .int .i64 now, .slice (some ⟨gh, 0, none⟩) L.length caph] w fun e w' => ∃ b, e = .returned (.int .i64 b) ∧ BestAt L hs now L.length b ∧ Chg NoB w w' := by
  obtain ⟨ha, hrow⟩ := hr
  have hlt := ha.lt
  obtain ⟨ao, cap, rfl, hcap, hnil, hsome⟩ := hrow.shape
  go_enter Try.func29, Try.ntmps29
  go_wp2
  go_loopw [7, 8] (fun b i wr => ∃ (k : Nat) (z : Int), i = .int .i64 k ∧ b = .int .i64 z ∧ k ≤ L.length ∧ BestAt L hs now k z ∧ Chg NoB w wr) (fun _ i _ => L.length - (intOf i).toNat)
  case atStart => exact ⟨0, -1, rfl, rfl, Nat.zero_le _, .inl ⟨rfl, fun j a hj => by omega⟩, Chg.refl _ w⟩
  case round =>
    obtain ⟨k, z, rfl, rfl, hk, hbest, hcw⟩ := hrel
    have hc := (ha.chg hcw (by simp [NoB])).cell 0 rfl
    by_cases hlt' : k < L.length
    · obtain ⟨a, hak⟩ : ∃ a, L[k]? = some a := ⟨L[k], by simp [hlt']⟩
      obtain ⟨hb, hbk⟩ : ∃ hb, hs[k]? = some hb := ⟨hs[k]'(by omega), by simp [hn, hlt']⟩
      have hl1 : ((k : Int) < (L.length : Int)) := by omega
      have hd1 : decide ((k : Int) < (L.length : Int)) = true := by simpa using hl1
      have hi1 : (0 : Int) ≤ (k : Int) := by omega
      obtain ⟨g, cap1, hv1, _, _, _⟩ := row_some hrow hlt'
      simp only [Value.slice.injEq, true_and] at hv1
      obtain ⟨rfl, rfl⟩ := hv1
      have hcr := hrow.chg hcw (by simp [NoB])
      obtain ⟨q1, q2, q3, q4⟩ := row_cells hcr hak
      have hq := (hh.chg hcw (by simp [NoB])).cell0 cellsB_len hbk rfl
      rw [Nat.mul_one] at hq
      have HB := Lib.hid hbest
      clear hnil hsome
      cases hb with
      | true =>
        have hskip := HB.out.skip (fun a h => by have := h.2.1; rw [hbk] at this; cases this)
        have HK := Lib.hid hskip
        clear hskip hbest hak hbk
        go_wp2_with fail
        exact ⟨⟨k + 1, z, by go_num, rfl, by omega, HK.out, hcw⟩, by simp [intOf]; omega⟩
      | false =>
        by_cases hat : now < a.at_
        · have hskip := HB.out.skip (fun c h => by have h1 := Option.some.inj (h.1.symm.trans hak); subst h1; have := h.2.2; omega)
          have HK := Lib.hid hskip
          have hd2 : decide (now < a.at_) = true := by simpa using hat
          clear hskip hbest hak hbk hat
          go_wp2_with fail
          exact ⟨⟨k + 1, z, by go_num, rfl, by omega, HK.out, hcw⟩, by simp [intOf]; omega⟩
        · have hlive : live L hs now k a := ⟨hak, hbk, by omega⟩
          have hd2 : decide (now < a.at_) = false := by simpa using hat
          rcases hbest.cases with rfl | ⟨n, c, hnk, rfl, hcn⟩
          · have HK := Lib.hid (HB.out.first hlive)
            clear hbest hak hbk hat hlive
            go_wp2_with fail
            go_quiet (fail)
            go_wp2_with fail
            exact ⟨⟨k + 1, k, by go_num, rfl, by omega, HK.out, hcw.drewN _⟩, by simp [intOf]; omega⟩
          · have hd3 : decide ((n : Int) < 0) = false := by simp
            have hi2 : (0 : Int) ≤ (n : Int) := by omega
            have hi3 : (n : Int) < (L.length : Int) := by omega
            obtain ⟨p1, p2, p3, p4⟩ := row_cells hcr hcn
            by_cases hcmp : a.at_ < c.at_
            · have HK := Lib.hid (HB.out.better hcn hlive hcmp)
              have hd4 : decide (a.at_ < c.at_) = true := by simpa using hcmp
              clear hbest hak hbk hat hlive hcn hcmp
              go_wp2_with fail
              go_quiet (fail)
              go_wp2_with fail
              exact ⟨⟨k + 1, k, by go_num, rfl, by omega, HK.out, hcw.drewN _⟩, by simp [intOf]; omega⟩
            · have HK := Lib.hid (HB.out.stay hcn hak hcmp)
              have hd4 : decide (a.at_ < c.at_) = false := by simpa using hcmp
              clear hbest hak hbk hat hlive hcn hcmp
              go_wp2_with fail
              go_quiet (fail)
              go_wp2_with fail
              exact ⟨⟨k + 1, n, by go_num, rfl, by omega, HK.out, hcw.drewN _⟩, by simp [intOf]; omega⟩
    · obtain rfl : k = L.length := by omega
      have hd1 : decide ((L.length : Int) < (L.length : Int)) = false := by simp
      have HB := Lib.hid hbest
      clear hbest
      go_wp2
      go_ret
      exact ⟨z, rfl, HB.out, hcw⟩
end Go.Proofs.Ytgpholdeiahldaa
