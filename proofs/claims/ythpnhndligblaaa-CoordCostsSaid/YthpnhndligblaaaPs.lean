/- Steps of a coordinator whose entries are known as data, in a law that owns it. Conditions: none but the entries' own. -/
import Derived.Test.YthpnhndligblaaaAw
namespace Go.Proofs.Ythpnhndligblaaa
open Go.RowKit Go.Maps Go.BigFrame
theorem field_deal (a : Option Addr) (n c : Nat) (k tx : Int) (mv : Value) (r : Int) (w : World) : (Instr.field 41 (.agg #[.slice a n c, .int .i64 k, .int .i64 tx, .int .i64 0, .int .i64 0, .string ⟨#[]⟩, .bool false, .string ⟨#[]⟩, .bool false, .string ⟨#[]⟩, .int .i64 0, mv, .slice none 0 0, .slice none 0 0, .slice none 0 0, .slice none 0 0, .slice none 0 0, .int .i64 r]) 0).run Try.prog w = .ok (.slice a n c) w := by kernel_rfl
/-- A coordinator of the law's own, made since w. -/
def Pst (w W : World) (bc bm : Nat) (me : Int) (es : List En) : Prop :=
  (∃ l, CAt W bc bm me l ∧ (∀ p ∈ l, OkP me p) ∧ esOf l = es ∧ (∀ k, owned bm l k → w.heap.size ≤ k)) ∧ Chg NoB w W
/-- Nothing but what a coordinator owns has turned. -/
def Kd (w W : World) (b : Nat) : Prop := w.heap.size ≤ b ∧ ∀ cs T, At W b cs T → T = 3 ∨ T = 61
theorem At.kd {w W : World} {b : Nat} {cs : List Value} {T : TypeId} (h : At W b cs T) (h2 : (3 : TypeId) ≠ T) (h3 : (61 : TypeId) ≠ T) : ¬ Kd w W b := fun hk => by
  rcases hk.2 cs T h with rfl | rfl
  · exact h2 rfl
  · exact h3 rfl
theorem Pst.no {w W W' : World} {bc bm : Nat} {me : Int} {es : List En} (h : Pst w W bc bm me es) (c : Chg NoB W W') : Pst w W' bc bm me es := by
  obtain ⟨⟨l, h1, h2, h3, h4⟩, h5⟩ := h
  exact ⟨⟨l, h1.no c, h2, h3, h4⟩, h5.trans c (by simp [NoB])⟩
theorem Pst.of_at {w W W' : World} {bc bm b : Nat} {me : Int} {es : List En} {cs : List Value} {T : TypeId} (h : Pst w W bc bm me es) (ha : At W b cs T) (hb : w.heap.size ≤ b) (h1 : (56 : TypeId) ≠ T) (h2 : (3 : TypeId) ≠ T) (h3 : (61 : TypeId) ≠ T) (c : Chg (· = b) W W') : Pst w W' bc bm me es := by
  obtain ⟨⟨l, a1, a2, a3, a4⟩, h5⟩ := h
  exact ⟨⟨l, a1.apart_at ha h1 h2 h3 c, a2, a3, a4⟩, h5.trans c (fun j hj e => by omega)⟩
theorem Out.pst {w W W' : World} {bc bm : Nat} {me : Int} {l : List Ep} {es' : List En} (h1 : CAt W bc bm me l) (h4 : ∀ k, owned bm l k → w.heap.size ≤ k) (h5 : Chg NoB w W) (h : Out W W' bc bm me l es') : Pst w W' bc bm me es' ∧ Chg (Kd w W) W W' := by
  obtain ⟨l', a1, a2, a3, a4, a5⟩ := h
  refine ⟨⟨⟨l', a1, a2, a3, fun k hk => ?_⟩, h5.trans a4 (fun j hj hk => by have := h4 j hk; omega)⟩, a4.mono (fun k _ hk => ⟨h4 k hk, fun cs T hA => ?_⟩)⟩
  · rcases a5 k hk with h | h
    · exact h4 k h
    · have := h5.size; omega
  · by_cases hT : T = 3
    · exact .inl hT
    · by_cases hT2 : T = 61
      · exact .inr hT2
      · exact absurd hk (h1.not_own hA (fun e => hT e.symm) (fun e => hT2 e.symm))
theorem DealIs.shape {w : World} {B : Nat} {v : Value} {d : Dl} (h : DealIs w B v d) : ∃ a k a' n' k', v = .agg (dealC (.slice a d.send.length k) d.k d.tx (.slice a' n' k') d.res).toArray ∧ MRow w B (.slice a d.send.length k) d.send := by
  obtain ⟨sv, mv, rfl, h2, h3⟩ := h
  obtain ⟨a, k, rfl, _⟩ := h2.shape
  obtain ⟨a', n', k', rfl⟩ := h3.isSl
  exact ⟨a, k, a', n', k', rfl, h2⟩
/-- The first message of a row. -/
theorem MRow.first {w : World} {B : Nat} {a : Option Addr} {n k : Nat} {m : Mg} {M : List Mg} (h : MRow w B (.slice a n k) (m :: M)) : ∃ g, a = some ⟨g, 0, none⟩ ∧ g < w.heap.size ∧ w.cell? ⟨g, 0, none⟩ = some (.int .i64 m.kind) ∧ w.cell? ⟨g, 2, none⟩ = some (.int .i64 m.dst) := by
  obtain ⟨L, h1, h2, h3⟩ := h
  cases L with
  | nil => cases h2
  | cons q L =>
    simp only [List.map_cons, List.cons.injEq] at h2
    obtain ⟨rfl, _⟩ := h2
    obtain ⟨ao, c, hv, _, hn, hs⟩ := h1.shape
    simp only [Value.slice.injEq] at hv
    obtain ⟨rfl, rfl, rfl⟩ := hv
    cases a with
    | none => have := (hn rfl).1; cases this
    | some ad =>
      obtain ⟨g, rfl, _, hg⟩ := hs ad rfl
      have c0 := h1.cell cellsM_len (j := 0) (i := 0) (a := q) rfl rfl
      have c2 := h1.cell cellsM_len (j := 0) (i := 2) (a := q) rfl rfl
      exact ⟨g, rfl, hg, by simpa using c0, by simpa using c2⟩
variable {w W : World} {bc bm : Nat} {me : Int} {es : List En}
theorem Pst.new (me : Int) (w : World) (h1 : 0 ≤ me) (h2 : me < 8) : Calls Try.prog 6 #[.int .i64 me] w fun e w' => e = .returned (.tuple #[.pointer (some ⟨w.heap.size + 1, 0, none⟩), .int .i64 0]) ∧ Pst w w' (w.heap.size + 1) w.heap.size me [] :=
  (new_any me w h1 h2).mono fun e w' ⟨a1, a2, a3⟩ => ⟨a1, ⟨[], a2, by simp, rfl, by rintro k (rfl | ⟨p, hp, _⟩); exact Nat.le_refl _; cases hp⟩, a3⟩
theorem Pst.open (h : Pst w W bc bm me es) (tx : Int) : Calls Try.prog 7 #[.pointer (some ⟨bc, 0, none⟩), .int .i64 tx] W fun e w' => e = .returned (.int .i64 (openD me es tx).1) ∧ Pst w w' bc bm me (openD me es tx).2 ∧ Chg (Kd w W) W w' := by
  obtain ⟨⟨l, a1, a2, rfl, a4⟩, h5⟩ := h
  exact (open_step a1 a2 tx).mono fun e w' ⟨b1, b2⟩ => ⟨b1, b2.pst a1 a4 h5⟩
theorem Pst.enlist (h : Pst w W bc bm me es) (tx node : Int) (ht : I64 tx) : Calls Try.prog 8 #[.pointer (some ⟨bc, 0, none⟩), .int .i64 tx, .int .i64 node] W fun e w' => e = .returned (.int .i64 (enlistD es tx node).1) ∧ Pst w w' bc bm me (enlistD es tx node).2 ∧ Chg (Kd w W) W w' := by
  obtain ⟨⟨l, a1, a2, rfl, a4⟩, h5⟩ := h
  exact (enlist_step a1 a2 tx node ht).mono fun e w' ⟨b1, b2⟩ => ⟨b1, b2.pst a1 a4 h5⟩
theorem Pst.ask (h : Pst w W bc bm me es) (tx : Int) (ht : I64 tx) : Calls Try.prog 9 #[.pointer (some ⟨bc, 0, none⟩), .int .i64 tx] W fun e w' => ∃ v, e = .returned (.tuple #[v, .int .i64 (askD me es tx).1]) ∧ DealIs w' W.heap.size v (askD me es tx).2.1 ∧ Pst w w' bc bm me (askD me es tx).2.2 ∧ Chg (Kd w W) W w' := by
  obtain ⟨⟨l, a1, a2, rfl, a4⟩, h5⟩ := h
  exact (ask_step a1 a2 tx ht).mono fun e w' ⟨v, b1, b2, b3⟩ => ⟨v, b1, b2, b3.pst a1 a4 h5⟩
theorem Pst.quit (h : Pst w W bc bm me es) (tx : Int) (ht : I64 tx) : Calls Try.prog 16 #[.pointer (some ⟨bc, 0, none⟩), .int .i64 tx] W fun e w' => ∃ v, e = .returned (.tuple #[v, .int .i64 (quitD me es tx).1]) ∧ DealIs w' W.heap.size v (quitD me es tx).2.1 ∧ Pst w w' bc bm me (quitD me es tx).2.2 ∧ Chg (Kd w W) W w' := by
  obtain ⟨⟨l, a1, a2, rfl, a4⟩, h5⟩ := h
  exact (quit_step a1 a2 tx ht).mono fun e w' ⟨v, b1, b2, b3⟩ => ⟨v, b1, b2, b3.pst a1 a4 h5⟩
theorem Pst.sure (h : Pst w W bc bm me es) (tx : Int) (ht : I64 tx) : Calls Try.prog 11 #[.pointer (some ⟨bc, 0, none⟩), .int .i64 tx] W fun e w' => ∃ v, e = .returned v ∧ DealIs w' W.heap.size v (sureD me es tx).1 ∧ Pst w w' bc bm me (sureD me es tx).2 ∧ Chg (Kd w W) W w' := by
  obtain ⟨⟨l, a1, a2, rfl, a4⟩, h5⟩ := h
  exact (sure_step a1 a2 tx ht).mono fun e w' ⟨v, b1, b2, b3⟩ => ⟨v, b1, b2, b3.pst a1 a4 h5⟩
theorem Pst.ack (h : Pst w W bc bm me es) (m : Mg) (hm : m.ms = []) : Calls Try.prog 14 #[.pointer (some ⟨bc, 0, none⟩), msgV m (.slice none 0 0)] W fun e w' => ∃ v, e = .returned v ∧ DealIs w' W.heap.size v (ackD me es m).1 ∧ Pst w w' bc bm me (ackD me es m).2 ∧ Chg (Kd w W) W w' := by
  obtain ⟨⟨l, a1, a2, rfl, a4⟩, h5⟩ := h
  exact (ack_step a1 a2 m _ (by rw [hm]; exact Sees.nil _) (by rw [hm]; simp)).mono fun e w' ⟨v, b1, b2, b3⟩ => ⟨v, b1, b2, b3.pst a1 a4 h5⟩
theorem Pst.vote (h : Pst w W bc bm me es) (m : Mg) (hm : m.ms = []) : Calls Try.prog 10 #[.pointer (some ⟨bc, 0, none⟩), msgV m (.slice none 0 0)] W fun e w' => ∃ v, e = .returned v ∧ DealIs w' W.heap.size v (voteD me es m).1 ∧ Pst w w' bc bm me (voteD me es m).2 ∧ Chg (Kd w W) W w' := by
  obtain ⟨⟨l, a1, a2, rfl, a4⟩, h5⟩ := h
  refine (vote_step a1 a2 m _ (by rw [hm]; exact Sees.nil _) (by rw [hm]; simp)).mono ?_
  rintro e w' ⟨v, B, b1, b2, b3, l', c1, c2, c3, c4, c5, _⟩
  exact ⟨v, b1, b3.mono b2, Out.pst a1 a4 h5 ⟨l', c1, c2, c3, c4, c5⟩⟩
theorem Pst.inquire (h : Pst w W bc bm me es) (m : Mg) (hm : m.ms = []) : Calls Try.prog 15 #[.pointer (some ⟨bc, 0, none⟩), msgV m (.slice none 0 0)] W fun e w' => ∃ v, e = .returned v ∧ DealIs w' W.heap.size v (inquireD me es m) ∧ Chg NoB W w' := by
  obtain ⟨⟨l, a1, a2, rfl, a4⟩, h5⟩ := h
  exact inquire_step a1 a2 m _ (by rw [hm]; exact Sees.nil _) (by rw [hm]; simp)
theorem Pst.phase (h : Pst w W bc bm me es) (tx : Int) (ht : I64 tx) : Calls Try.prog 17 #[.pointer (some ⟨bc, 0, none⟩), .int .i64 tx] W fun e w' => e = .returned (.int .i64 (phaseD es tx)) ∧ Chg NoB W w' := by
  obtain ⟨⟨l, a1, a2, rfl, a4⟩, h5⟩ := h
  exact (phase_step a1 tx ht).mono fun e w' ⟨b1, b2⟩ => ⟨b1, by rw [b2]; exact Chg.refl _ _⟩
end Go.Proofs.Ythpnhndligblaaa
