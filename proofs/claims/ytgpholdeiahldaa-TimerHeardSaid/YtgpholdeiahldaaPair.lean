/- The timer's and the reference's calls beside each other: the same answer, and alike behind. Conditions: at most 100 alarms. -/
import Derived.Test.YtgpholdeiahldaaPl2
import Derived.Test.YtgpholdeiahldaaRdue
import Derived.Test.YtgpholdeiahldaaRf3
import Derived.Test.YtgpholdeiahldaaFull
import Derived.Test.YtgpholdeiahldaaTm2
namespace Go.Proofs.Ytgpholdeiahldaa
open Go.RowKit Go.Maps
/-- What a call of the table answers and leaves. -/
def TDoes (f : Nat) (args : List Value) (bt bm : Nat) (l l' : List (Key × Alarm)) (r : Value) : Prop :=
  ∀ W, TAt W bt bm l → Calls Try.prog f (Value.pointer (some ⟨bt, 0, none⟩) :: args).toArray W fun e w' => e = .returned r ∧ TAt w' bt bm l' ∧ Chg (· = bm) W w'
/-- What a call of the reference's answers and leaves. -/
def RDoes (f : Nat) (args : List Value) (bR : Nat) (v : Value) (L L' : List Alarm) (r : Value) : Prop :=
  ∀ W, RAt W bR v L → Calls Try.prog f (Value.pointer (some ⟨bR, 0, none⟩) :: args).toArray W fun e w' => e = .returned r ∧ ∃ v', RAt w' bR v' L' ∧ Chg (fun b => b = bR ∨ v.ownBlock = some b) W w' ∧ (∀ g, v'.ownBlock = some g → v.ownBlock = some g ∨ W.heap.size ≤ g)
theorem TAt.same {w w' : World} {bt bm : Nat} {l : List (Key × Alarm)} (h : TAt w bt bm l) (c : Chg NoB w w') : TAt w' bt bm l := ⟨h.1.chg c (by simp [NoB]), h.2.chg c (by simp [NoB])⟩
theorem RAt.same {w w' : World} {bR : Nat} {v : Value} {L : List Alarm} (h : RAt w bR v L) (c : Chg NoB w w') : RAt w' bR v L := ⟨h.1.chg c (by simp [NoB]), h.2.chg c (by simp [NoB])⟩
theorem start_pair {k : Nat} {l : List (Key × Alarm)} {L : List Alarm} (bt bm bR : Nat) (v : Value) (tx role now : Int) (h : Rel l L) (hn : (l.map (·.1)).Nodup) (hg : Good k l) (hl : l.length ≤ k) (hk : k ≤ 100) :
    ∃ r l' L', TDoes 12 [.int .i64 tx, .int .i64 role, .int .i64 now] bt bm l l' (.int .i64 r) ∧ RDoes 16 [.int .i64 tx, .int .i64 role, .int .i64 now] bR v L L' (.int .i64 r) ∧ Rel l' L' ∧ Good (k + 1 : Nat) l' ∧ l'.length ≤ k + 1 := by
  by_cases hb : badStart tx role now
  · refine ⟨1, l, L, fun W ht => (start_bad bt tx role now W hb).mono ?_, fun W hr => (rstart_bad bR tx role now W hb).mono ?_, h, by have := hg.more; simpa using this, by omega⟩
    · rintro e w' ⟨rfl, rfl⟩
      exact ⟨rfl, ht, Chg.refl _ _⟩
    · rintro e w' ⟨rfl, rfl⟩
      exact ⟨rfl, v, hr, Chg.refl _ _, fun g hg => .inl hg⟩
  · have hLl := h.len
    refine ⟨0, _, _, fun W ht => (start_ok bt bm l tx role now W ht hb (Or.inr (by omega))).mono ?_, fun W hr => (rstart_ok bR v L tx role now W hr (by omega) hb (Or.inr (by omega))).mono ?_, h.start hn tx role now, ?_, ?_⟩
    · rintro e w' ⟨rfl, h1, h2⟩
      exact ⟨rfl, h1, h2⟩
    · rintro e w' ⟨rfl, v', h1, h2, h3⟩
      exact ⟨rfl, v', h1, h2.mono (fun b _ e => .inl e), fun g hg => .inr (h3 g hg)⟩
    · have := (hg.start hn (by omega) tx role now hb).more
      simpa using this
    · exact Nat.le_trans (mput_len _ _ _) (by omega)
theorem stop_pair {k : Nat} {l : List (Key × Alarm)} {L : List Alarm} (bt bm bR : Nat) (v : Value) (tx role : Int) (h1 : I64 tx) (h2 : I64 role) (h : Rel l L) (hn : (l.map (·.1)).Nodup) (hg : Good k l) (hl : l.length ≤ k) (hk : k ≤ 100) :
    ∃ r l' L', TDoes 13 [.int .i64 tx, .int .i64 role] bt bm l l' (.bool r) ∧ RDoes 17 [.int .i64 tx, .int .i64 role] bR v L L' (.bool r) ∧ Rel l' L' ∧ Good (k + 1 : Nat) l' ∧ l'.length ≤ k + 1 := by
  have hLl := h.len
  have hth := (h.there hn tx role).1
  have hg2 : Good (k + 1 : Nat) (mdel l (tx, role)) := by have := (hg.stop (tx, role)).more; simpa using this
  have hl2 : (mdel l (tx, role)).length ≤ k + 1 := Nat.le_trans (List.length_filter_le _ _) (by omega)
  cases hb : thereB L tx role with
  | true =>
    rw [hb] at hth
    refine ⟨true, _, _, fun W ht => (stop_any bt bm l tx role W ht h1 h2).mono ?_, fun W hr => (rstop_ok bR v L tx role W hr (by omega) hb).mono ?_, h.stop hn tx role hb, hg2, hl2⟩
    · rintro e w' ⟨rfl, h1, h2⟩
      exact ⟨by rw [← hth], h1, h2⟩
    · rintro e w' ⟨rfl, v', h1, h2, h3⟩
      exact ⟨rfl, v', h1, h2.mono (fun b _ e => .inl e), fun g hg => .inr (h3 g hg)⟩
  | false =>
    rw [hb] at hth
    refine ⟨false, _, L, fun W ht => (stop_any bt bm l tx role W ht h1 h2).mono ?_, fun W hr => (rstop_no bR v L tx role W hr (by omega) hb).mono ?_, by rw [h.noStop hn tx role hb]; exact h, hg2, hl2⟩
    · rintro e w' ⟨rfl, h1, h2⟩
      exact ⟨by rw [← hth], h1, h2⟩
    · rintro e w' ⟨rfl, h2⟩
      exact ⟨rfl, v, hr.same h2, h2.mono (by simp [NoB]), fun g hg => .inl hg⟩
/-- Behind both calls. -/
theorem after_two {w W w3 w4 : World} {bm bt bR : Nat} {v v' : Value} {l' : List (Key × Alarm)} {L' : List Alarm} (hb : w.heap.size ≤ bm) (hbR : w.heap.size ≤ bR) (hne1 : bt ≠ bR) (hne2 : bm ≠ bR) (hbt : v.ownBlock ≠ some bt) (hbm : v.ownBlock ≠ some bm)
    (hvw : ∀ g, v.ownBlock = some g → w.heap.size ≤ g) (hc2 : Chg NoB w W) (ht3 : TAt w3 bt bm l') (hc3 : Chg (· = bm) W w3) (hr4 : RAt w4 bR v' L') (hc4 : Chg (fun b => b = bR ∨ v.ownBlock = some b) w3 w4) (hv4 : ∀ g, v'.ownBlock = some g → v.ownBlock = some g ∨ w3.heap.size ≤ g) :
    TAt w4 bt bm l' ∧ RAt w4 bR v' L' ∧ Chg NoB w w4 ∧ (∀ g, v'.ownBlock = some g → w.heap.size ≤ g) := by
  have h3 := hc3.size
  have h2 := hc2.size
  refine ⟨⟨ht3.1.chg hc4 ?_, ht3.2.chg hc4 ?_⟩, hr4, (hc2.trans hc3 (fun j h1 h2 => by omega)).trans hc4 ?_, fun g hg => ?_⟩
  · rintro (h | h)
    · exact hne1 h
    · exact hbt h
  · rintro (h | h)
    · exact hne2 h
    · exact hbm h
  · rintro j h1 (h | h)
    · omega
    · have := hvw j h; omega
  · rcases hv4 g hg with h | h
    · exact hvw g h
    · omega
end Go.Proofs.Ytgpholdeiahldaa
