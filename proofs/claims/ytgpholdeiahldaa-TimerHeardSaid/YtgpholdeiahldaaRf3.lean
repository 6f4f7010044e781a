/- The reference's timer: Stop, Get, a full table, and 'Same' of equal lists. Conditions: lists of at most 2^40 alarms. -/
import Derived.Test.YtgpholdeiahldaaRf2
namespace Go.Proofs.Ytgpholdeiahldaa
open Go.RowKit Go.Maps
set_option maxHeartbeats 1000000 in
theorem same_any (ba bb : Nat) (va vb : Value) (l : List Alarm) (w : World) (ha : Row w ba va l) (hb : Row w bb vb l) (hl : l.length ≤ 1099511627776) :
    Calls Try.prog 20 #[va, vb] w fun e w' => e = .returned (.bool true) ∧ Chg NoB w w' := by
  obtain ⟨aa, capa, rfl, _, _, _⟩ := ha.shape
  obtain ⟨ab, capb, rfl, _, _, _⟩ := hb.shape
  go_enter Try.func20, Try.ntmps20
  go_wp2
  go_loopw [5] (fun i wr => ∃ k : Nat, i = .int .i64 k ∧ k ≤ l.length ∧ Chg NoB w wr) (fun i _ => l.length - (intOf i).toNat)
  case atStart => exact ⟨0, rfl, Nat.zero_le _, Chg.refl _ w⟩
  case round =>
    obtain ⟨k, rfl, hk, hcw⟩ := hrel
    by_cases hlt' : k < l.length
    · obtain ⟨a, hak⟩ : ∃ a, l[k]? = some a := ⟨l[k], by simp [hlt']⟩
      have hl1 : ((k : Int) < (l.length : Int)) := by omega
      have hd1 : decide ((k : Int) < (l.length : Int)) = true := by simpa using hl1
      have hi1 : (0 : Int) ≤ (k : Int) := by omega
      obtain ⟨g, cap1, hv1, _, _, _⟩ := row_some ha hlt'
      obtain ⟨g2, cap2, hv2, _, _, _⟩ := row_some hb hlt'
      simp only [Value.slice.injEq, true_and] at hv1 hv2
      obtain ⟨rfl, rfl⟩ := hv1
      obtain ⟨rfl, rfl⟩ := hv2
      obtain ⟨q1, q2, q3, q4⟩ := row_cells (ha.chg hcw (by simp [NoB])) hak
      obtain ⟨p1, p2, p3, p4⟩ := row_cells (hb.chg hcw (by simp [NoB])) hak
      clear hak
      go_wp2
      go_quiet (fail)
      go_wp2
      exact ⟨⟨k + 1, by go_num, by omega, hcw.drewN _⟩, by simp [intOf]; omega⟩
    · obtain rfl : k = l.length := by omega
      have hd1 : decide ((l.length : Int) < (l.length : Int)) = false := by simp
      go_wp2
      go_ret
      exact ⟨rfl, hcw⟩
set_option maxHeartbeats 1000000 in
set_option maxRecDepth 100000 in
theorem rstart_full (bR : Nat) (v : Value) (l : List Alarm) (tx role now : Int) (w : World) (hr : RAt w bR v l) (hl : l.length ≤ 1099511627776) (hb : ¬ badStart tx role now) (hh : thereB l tx role = false) (h2 : 1024 ≤ l.length) :
    Calls Try.prog 16 #[.pointer (some ⟨bR, 0, none⟩), .int .i64 tx, .int .i64 role, .int .i64 now] w fun e w' => e = .returned (.int .i64 162) ∧ Chg NoB w w' := by
  unfold badStart at hb
  have hfind := find_any bR v l tx role w hr hl
  change Calls Try.prog 28 _ w fun e w' => e = .returned (.tuple #[.int .i64 (placeI l tx role), .bool (thereB l tx role)]) ∧ Chg NoB w w' at hfind
  rw [hh] at hfind
  generalize placeI l tx role = p at *
  obtain ⟨ha, hrow⟩ := hr
  have hb1 : decide (tx < 1) = false := by simp; omega
  have hb2 : decide (1099511627776 < tx) = false := by simp; omega
  have hb3 : decide (role < 1) = false := by simp; omega
  have hb4 : decide (3 < role) = false := by simp; omega
  have hb5 : decide (now < 0) = false := by simp; omega
  have hb6 : decide (1099511627776 < now) = false := by simp; omega
  clear hb hh
  obtain ⟨ao, cap, rfl, hcap, hnil, hsome⟩ := hrow.shape
  have hd9 : decide ((1024 : Int) ≤ (l.length : Int)) = true := by simp; omega
  clear hnil hsome
  go_enter Try.func16, Try.ntmps16
  go_wp2_with fail
  refine hfind.mono ?_
  rintro e w1 ⟨rfl, hc1⟩
  have ha1 := (ha.chg hc1 (by simp [NoB])).cell 0 rfl
  go_wp2_with fail
  go_ret
  exact ⟨rfl, hc1⟩
/-- What Get answers. -/
def rGetA (l : List Alarm) (tx role : Int) : Alarm := if thereB l tx role = true then (l[placeI l tx role]?).getD ⟨0, 0, 0, 0⟩ else ⟨0, 0, 0, 0⟩
set_option maxHeartbeats 1000000 in
theorem rget_any (bR : Nat) (v : Value) (l : List Alarm) (tx role : Int) (w : World) (hr : RAt w bR v l) (hl : l.length ≤ 1099511627776) :
    Calls Try.prog 19 #[.pointer (some ⟨bR, 0, none⟩), .int .i64 tx, .int .i64 role] w fun e w' => e = .returned (.tuple #[encA (rGetA l tx role), .bool (thereB l tx role)]) ∧ Chg NoB w w' := by
  have hfind := fun W (h : RAt W bR v l) => find_any bR v l tx role W h hl
  change ∀ W, RAt W bR v l → Calls Try.prog 28 _ W fun e w' => e = .returned (.tuple #[.int .i64 (placeI l tx role), .bool (thereB l tx role)]) ∧ Chg NoB W w' at hfind
  have his : thereB l tx role = true → ∃ a, l[placeI l tx role]? = some a := by
    intro h
    unfold thereB isAt at h
    cases hx : l[placeI l tx role]? with
    | none => rw [hx] at h; cases h
    | some a => exact ⟨a, rfl⟩
  have HG : Hid (rGetA l tx role = if thereB l tx role = true then (l[placeI l tx role]?).getD ⟨0, 0, 0, 0⟩ else ⟨0, 0, 0, 0⟩) := rfl
  generalize rGetA l tx role = G at *
  generalize placeI l tx role = p at *
  generalize thereB l tx role = c at *
  obtain ⟨ha, hrow⟩ := hr
  have hf := hfind (w.alloc (.cells #[.int .i64 0, .int .i64 0, .int .i64 0, .int .i64 0] 34)) ⟨ha.alloc _, hrow.alloc _⟩
  clear hfind
  have hlt := ha.lt
  cases c with
  | true =>
    obtain ⟨a, hak⟩ := his rfl
    clear his
    have hp : p < l.length := (List.getElem?_eq_some_iff.1 hak).1
    have hG : G = a := by have := HG.out; simpa [hak] using this
    subst hG
    clear HG
    obtain ⟨g, cap, rfl, hcap, hb, hg⟩ := row_some hrow hp
    have hi1 : (0 : Int) ≤ (p : Int) := by omega
    have hi2 : (p : Int) < (l.length : Int) := by omega
    go_enter Try.func19, Try.ntmps19
    go_wp2_with fail
    refine hf.mono ?_
    rintro e w1 ⟨rfl, hc1⟩
    have hcw : Chg NoB w w1 := ((Chg.refl _ w).alloc _).trans hc1 (by simp [NoB])
    have ha1 := (ha.chg hcw (by simp [NoB])).cell 0 rfl
    obtain ⟨q1, q2, q3, q4⟩ := row_cells (hrow.chg hcw (by simp [NoB])) hak
    have hat := (At.new w [.int .i64 0, .int .i64 0, .int .i64 0, .int .i64 0] 34).chg hc1 (by simp [NoB])
    have hfz := hat.frozen 0
    have hfz1 := hat.frozen 1
    have hfz2 := hat.frozen 2
    have hfz3 := hat.frozen 3
    have x1 := hat.cell 0 rfl
    have x2 := hat.cell 1 rfl
    have x3 := hat.cell 2 rfl
    have x4 := hat.cell 3 rfl
    go_wp2_with fail
    refine bodyPost_ret (v := .tuple #[.agg #[.int .i64 G.tx, .int .i64 G.role, .int .i64 G.at_, .int .i64 G.tries], .bool true]) ?_ rfl ⟨rfl, ?_⟩
    · simp [results, Try.results19, go_sem, x1, x2, x3, x4]
    · have hz : w.heap.size < w.heap.size → NoB w.heap.size := fun h => absurd h (Nat.lt_irrefl _)
      exact (((hcw.setCell (p := ⟨w.heap.size, 0, none⟩) hz _).setCell (p := ⟨w.heap.size, 1, none⟩) hz _).setCell (p := ⟨w.heap.size, 2, none⟩) hz _).setCell (p := ⟨w.heap.size, 3, none⟩) hz _
  | false =>
    have hG := HG.out
    simp only [Bool.false_eq_true, if_false] at hG
    subst hG
    clear HG his
    go_enter Try.func19, Try.ntmps19
    go_wp2_with fail
    refine hf.mono ?_
    rintro e w1 ⟨rfl, hc1⟩
    have hcw : Chg NoB w w1 := ((Chg.refl _ w).alloc _).trans hc1 (by simp [NoB])
    have hat := (At.new w [.int .i64 0, .int .i64 0, .int .i64 0, .int .i64 0] 34).chg hc1 (by simp [NoB])
    have hfz := hat.frozen 0
    have hfz1 := hat.frozen 1
    have hfz2 := hat.frozen 2
    have hfz3 := hat.frozen 3
    have x1 := hat.cell 0 rfl
    have x2 := hat.cell 1 rfl
    have x3 := hat.cell 2 rfl
    have x4 := hat.cell 3 rfl
    go_wp2_with fail
    refine bodyPost_ret (v := .tuple #[.agg #[.int .i64 0, .int .i64 0, .int .i64 0, .int .i64 0], .bool false]) ?_ rfl ⟨rfl, ?_⟩
    · simp [results, Try.results19, go_sem, x1, x2, x3, x4]
    · have hz : w.heap.size < w.heap.size → NoB w.heap.size := fun h => absurd h (Nat.lt_irrefl _)
      exact (((hcw.setCell (p := ⟨w.heap.size, 0, none⟩) hz _).setCell (p := ⟨w.heap.size, 1, none⟩) hz _).setCell (p := ⟨w.heap.size, 2, none⟩) hz _).setCell (p := ⟨w.heap.size, 3, none⟩) hz _
/-- What Stop leaves. -/
def rStopL (l : List Alarm) (tx role : Int) : List Alarm := l.take (placeI l tx role) ++ l.drop (placeI l tx role + 1)
set_option maxHeartbeats 1000000 in
theorem rstop_no (bR : Nat) (v : Value) (l : List Alarm) (tx role : Int) (w : World) (hr : RAt w bR v l) (hl : l.length ≤ 1099511627776) (hh : thereB l tx role = false) :
    Calls Try.prog 17 #[.pointer (some ⟨bR, 0, none⟩), .int .i64 tx, .int .i64 role] w fun e w' => e = .returned (.bool false) ∧ Chg NoB w w' := by
  have hfind := find_any bR v l tx role w hr hl
  change Calls Try.prog 28 _ w fun e w' => e = .returned (.tuple #[.int .i64 (placeI l tx role), .bool (thereB l tx role)]) ∧ Chg NoB w w' at hfind
  rw [hh] at hfind
  generalize placeI l tx role = p at *
  clear hh hr
  go_enter Try.func17, Try.ntmps17
  go_wp2_with fail
  refine hfind.mono ?_
  rintro e w1 ⟨rfl, hc1⟩
  go_wp2_with fail
  go_ret
  exact ⟨rfl, hc1⟩
set_option maxHeartbeats 2000000 in
set_option maxRecDepth 100000 in
theorem rstop_ok (bR : Nat) (v : Value) (l : List Alarm) (tx role : Int) (w : World) (hr : RAt w bR v l) (hl : l.length ≤ 1099511627776) (hh : thereB l tx role = true) :
    Calls Try.prog 17 #[.pointer (some ⟨bR, 0, none⟩), .int .i64 tx, .int .i64 role] w fun e w' =>
      e = .returned (.bool true) ∧ ∃ v', RAt w' bR v' (rStopL l tx role) ∧ Chg (· = bR) w w' ∧ (∀ g, v'.ownBlock = some g → w.heap.size ≤ g) := by
  have hfind := find_any bR v l tx role w hr hl
  have hfl : placeI l tx role ≤ l.length := findI_le _ _
  change Calls Try.prog 28 _ w fun e w' => e = .returned (.tuple #[.int .i64 (placeI l tx role), .bool (thereB l tx role)]) ∧ Chg NoB w w' at hfind
  have hp3 : placeI l tx role < l.length := by
    unfold thereB isAt at hh
    refine Nat.lt_of_not_le fun hle => ?_
    rw [List.getElem?_eq_none hle] at hh
    cases hh
  rw [hh] at hfind
  clear hh
  unfold rStopL
  generalize placeI l tx role = p at *
  obtain ⟨ha, hrow⟩ := hr
  have hlt := ha.lt
  obtain ⟨ao, cap, rfl, hcap, hnil, hsome⟩ := hrow.shape
  have hp1 : (0 : Int) ≤ (p : Int) := by omega
  have hp2 : (p : Int) ≤ (cap : Int) := by omega
  have hp5 : (l.length : Int) ≤ (cap : Int) := by omega
  obtain ⟨i0, hi, hz0, hz1, hz2⟩ := info_parts info34
  have hp4 : (p : Int) + 1 ≤ (l.length : Int) := by omega
  obtain ⟨g, rfl⟩ : ∃ g, ao = some ⟨g, 0, none⟩ := by
    cases ao with
    | none => rw [(hnil rfl).1] at hp3; simp at hp3
    | some ad => obtain ⟨g, rfl, _⟩ := hsome ad rfl; exact ⟨g, rfl⟩
  clear hnil hsome
  go_enter Try.func17, Try.ntmps17
  go_wp2_with fail
  refine hfind.mono ?_
  rintro e w1 ⟨rfl, hc1⟩
  have ha1 := (ha.chg hc1 (by simp [NoB])).cell 0 rfl
  have hrow1 := hrow.chg hc1 (by simp [NoB])
  have hsz := hc1.size
  go_wp2_with (at_builtin; refine wpList_app (RowOf.nil _ w.heap.size) (hrow1.take p hfl) cellsA_len cellsA_one (by omega) 31 i0 _ 32 Try.underlying31 hi hz0 hz1 hz2 rfl rfl _ _ rfl rfl rfl (by simp [maxLen]; omega) (by simp; omega) hsz ?_; intro v2 w2 hr2 hg2 _; refine stop ?_)
  unfold Stop
  rw [List.nil_append] at hr2
  have hsz2 := Nat.le_trans hsz hg2.size
  have hlp : (List.take p l).length = p := by simp; omega
  have hc3 : Chg NoB w w2 := hc1.grown hg2 (by simp [Value.ownBlock])
  have ha3 := ha.chg hc3 (by simp [NoB])
  have hc3' := ha3.cell 0 rfl
  have hf3 := ha3.frozen 0
  have hrow3 := hrow.chg hc3 (by simp [NoB])
  go_wp2_with (at_builtin; refine stop ?_)
  all_goals
    unfold Stop
    refine wpList_app hr2 (l2 := l.drop (p + 1)) (by first | exact hrow3.drop_at cellsA_len (p + 1) _ (by omega) | exact SrcOf.left (by omega)) cellsA_len cellsA_one (by omega) 31 i0 _ 32 Try.underlying31 hi hz0 hz1 hz2 rfl rfl _ _ rfl rfl rfl (by rw [hlp]; simp [maxLen]; omega) (by rw [hlp]; omega) hsz2 ?_
    intro v4 w4 hr4 hg4 _
    have hc4 : Chg NoB w w4 := hc3.grown hg4 (fun g hg hlt => absurd (hr2.ge g hg).1 (by omega))
    have ha4 := ha.chg hc4 (by simp [NoB])
    have hf4 := ha4.frozen 0
    have hcell4 := ha4.cell 0 rfl
    obtain ⟨ao4, n4, cap4, rfl⟩ := hr4.slice
    go_wp2_with fail
    go_ret
    refine ⟨rfl, _, ⟨ha4.setCell 0 _, (hr4.mono (Nat.zero_le _)).chg ((Chg.refl (· = bR) w4).setCell (p := ⟨bR, 0, none⟩) (fun _ => rfl) _) (fun g hg e => by have := (hr4.ge g hg).1; omega)⟩, (hc4.mono (T := (· = bR)) (by simp [NoB])).setCell (p := ⟨bR, 0, none⟩) (fun _ => rfl) _, fun g hg => (hr4.ge g hg).1⟩
end Go.Proofs.Ytgpholdeiahldaa
