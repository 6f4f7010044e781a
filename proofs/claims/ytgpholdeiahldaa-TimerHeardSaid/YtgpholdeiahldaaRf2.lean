/- The reference's timer: Start, Stop and Get. Conditions: lists of at most 2^40 alarms. -/
import Derived.Test.YtgpholdeiahldaaRf
import Derived.Test.YtgpholdeiahldaaTm3
namespace Go.Proofs.Ytgpholdeiahldaa
open Go.RowKit Go.Maps
theorem info34 : (Try.prog.info? 34).map (fun i => (i.zero, i.size, i.bytes)) = some (some (encA ⟨0, 0, 0, 0⟩), 4, 32) := by kernel_rfl
/-- Where it stands, and whether it is there. -/
def placeI (l : List Alarm) (tx role : Int) : Nat := findI l ⟨tx, role, 0, 0⟩
def thereB (l : List Alarm) (tx role : Int) : Bool := isAt l (placeI l tx role) tx role
def rStartErr (l : List Alarm) (tx role now : Int) : Int :=
  if badStart tx role now then 1 else if thereB l tx role = false ∧ 1024 ≤ l.length then 162 else 0
def rStartL (l : List Alarm) (tx role now : Int) : List Alarm :=
  l.take (placeI l tx role) ++ [⟨tx, role, now + 4, 0⟩] ++ l.drop (if thereB l tx role = true then placeI l tx role + 1 else placeI l tx role)
set_option maxHeartbeats 1000000 in
set_option maxRecDepth 100000 in
theorem rstart_bad (bR : Nat) (tx role now : Int) (w : World) (h : badStart tx role now) : Calls Try.prog 16 #[.pointer (some ⟨bR, 0, none⟩), .int .i64 tx, .int .i64 role, .int .i64 now] w fun e w' => e = .returned (.int .i64 1) ∧ w' = w := by
  unfold badStart at h
  go_enter Try.func16, Try.ntmps16
  go_wp2_with fail
  all_goals first | (go_ret; exact ⟨rfl, rfl⟩) | (exfalso; omega)
set_option maxHeartbeats 2000000 in
set_option maxRecDepth 100000 in
theorem rstart_ok (bR : Nat) (v : Value) (l : List Alarm) (tx role now : Int) (w : World) (hr : RAt w bR v l) (hl : l.length ≤ 1099511627776) (hb : ¬ badStart tx role now) (hh : thereB l tx role = true ∨ l.length < 1024) :
    Calls Try.prog 16 #[.pointer (some ⟨bR, 0, none⟩), .int .i64 tx, .int .i64 role, .int .i64 now] w fun e w' =>
      e = .returned (.int .i64 0) ∧ ∃ v', RAt w' bR v' (rStartL l tx role now) ∧ Chg (· = bR) w w' ∧ (∀ g, v'.ownBlock = some g → w.heap.size ≤ g) := by
  unfold badStart at hb
  have hfind := find_any bR v l tx role w hr hl
  have hfl : placeI l tx role ≤ l.length := findI_le _ _
  change Calls Try.prog 28 _ w fun e w' => e = .returned (.tuple #[.int .i64 (placeI l tx role), .bool (thereB l tx role)]) ∧ Chg NoB w w' at hfind
  have HL : Hid (rStartL l tx role now = l.take (placeI l tx role) ++ [⟨tx, role, now + 4, 0⟩] ++ l.drop (if thereB l tx role = true then placeI l tx role + 1 else placeI l tx role)) := rfl
  generalize rStartL l tx role now = L at HL ⊢
  have his : thereB l tx role = true → placeI l tx role < l.length := by
    intro h
    unfold thereB isAt at h
    refine Nat.lt_of_not_le fun hle => ?_
    rw [List.getElem?_eq_none hle] at h
    cases h
  generalize placeI l tx role = p at *
  generalize thereB l tx role = c at *
  obtain ⟨ha, hrow⟩ := hr
  have hlt := ha.lt
  have hn5 : 0 ≤ now := by omega
  have hn6 : now ≤ 1099511627776 := by omega
  have hb1 : decide (tx < 1) = false := by simp; omega
  have hb2 : decide (1099511627776 < tx) = false := by simp; omega
  have hb3 : decide (role < 1) = false := by simp; omega
  have hb4 : decide (3 < role) = false := by simp; omega
  have hb5 : decide (now < 0) = false := by simp; omega
  have hb6 : decide (1099511627776 < now) = false := by simp; omega
  clear hb
  obtain ⟨ao, cap, rfl, hcap, hnil, hsome⟩ := hrow.shape
  have hp1 : (0 : Int) ≤ (p : Int) := by omega
  have hp2 : (p : Int) ≤ (cap : Int) := by omega
  have hp5 : (l.length : Int) ≤ (cap : Int) := by omega
  obtain ⟨i0, hi, hz0, hz1, hz2⟩ := info_parts info34
  cases c with
  | true =>
    have hp3 := his rfl
    have hp4 : (p : Int) + 1 ≤ (l.length : Int) := by omega
    clear his
    obtain ⟨g, rfl⟩ : ∃ g, ao = some ⟨g, 0, none⟩ := by
      cases ao with
      | none => rw [(hnil rfl).1] at hp3; simp at hp3
      | some ad => obtain ⟨g, rfl, _⟩ := hsome ad rfl; exact ⟨g, rfl⟩
    clear hnil hsome
    go_enter Try.func16, Try.ntmps16
    go_wp2_with fail
    refine hfind.mono ?_
    rintro e w1 ⟨rfl, hc1⟩
    have ha1 := (ha.chg hc1 (by simp [NoB])).cell 0 rfl
    have hrow1 := hrow.chg hc1 (by simp [NoB])
    have hsz := hc1.size
    go_wp2_with (at_builtin; refine wpList_app (RowOf.nil _ w.heap.size) (hrow1.take p hfl) cellsA_len cellsA_one (by omega) 31 i0 _ 32 Try.underlying31 hi hz0 hz1 hz2 rfl rfl _ _ rfl rfl rfl (by simp [maxLen]; omega) (by simp; omega) hsz ?_; intro v2 w2 hr2 hg2 _; refine stop ?_)
    unfold Stop
    rw [List.nil_append] at hr2
    have hsz2 := Nat.le_trans hsz hg2.size
    have hb2 := At.new w2 (cellsA ⟨tx, role, now + 4, 0⟩) 34
    have hlp : (List.take p l).length = p := by simp; omega
    go_wp2_with (at_builtin; refine wpList_app (hr2.alloc _) (SrcOf.one hb2) cellsA_len cellsA_one (by omega) 31 i0 _ 32 Try.underlying31 hi hz0 hz1 hz2 rfl rfl _ _ rfl rfl rfl (by rw [hlp]; simp [maxLen]; omega) (by rw [hlp]; omega) (by simp; omega) ?_; intro v3 w3 hr3 hg3 _; refine stop ?_)
    unfold Stop
    have hc3 : Chg NoB w w3 := ((hc1.grown hg2 (by simp [Value.ownBlock])).alloc _).grown hg3 (fun g hg hlt => absurd (hr2.ge g hg).1 (by omega))
    have ha3 := ha.chg hc3 (by simp [NoB])
    have hc3' := ha3.cell 0 rfl
    have hf3 := ha3.frozen 0
    have hrow3 := hrow.chg hc3 (by simp [NoB])
    have hll : (List.take p l ++ [(⟨tx, role, now + 4, 0⟩ : Alarm)]).length = p + 1 := by simp; omega
    go_wp2_with (at_builtin; refine stop ?_)
    all_goals
      unfold Stop
      refine wpList_app hr3 (l2 := l.drop (p + 1)) (by first | exact hrow3.drop_at cellsA_len (p + 1) _ (by omega) | exact SrcOf.left (by omega)) cellsA_len cellsA_one (by omega) 31 i0 _ 32 Try.underlying31 hi hz0 hz1 hz2 rfl rfl _ _ rfl rfl rfl (by rw [hll]; simp [maxLen]; omega) (by rw [hll]; omega) (Nat.le_trans (Nat.le_trans hsz2 (by simp)) hg3.size) ?_
      intro v4 w4 hr4 hg4 _
      have hc4 : Chg NoB w w4 := hc3.grown hg4 (fun g hg hlt => absurd (hr3.ge g hg).1 (by omega))
      have ha4 := ha.chg hc4 (by simp [NoB])
      have hf4 := ha4.frozen 0
      have hcell4 := ha4.cell 0 rfl
      have HL' := HL.out
      simp only [if_true] at HL'
      rw [← HL'] at hr4
      clear HL'
      obtain ⟨ao4, n4, cap4, rfl⟩ := hr4.slice
      go_wp2_with fail
      go_ret
      refine ⟨rfl, _, ⟨ha4.setCell 0 _, (hr4.mono (Nat.zero_le _)).chg ((Chg.refl (· = bR) w4).setCell (p := ⟨bR, 0, none⟩) (fun _ => rfl) _) (fun g hg e => by have := (hr4.ge g hg).1; omega)⟩, (hc4.mono (T := (· = bR)) (by simp [NoB])).setCell (p := ⟨bR, 0, none⟩) (fun _ => rfl) _, fun g hg => (hr4.ge g hg).1⟩
  | false =>
    clear his
    have hp4 : (p : Int) ≤ (l.length : Int) := by omega
    cases ao with
    | none =>
      obtain ⟨rfl, rfl⟩ := hnil rfl
      obtain rfl : p = 0 := by simpa using hfl
      clear hnil hsome hfl hp1 hp2 hp4 hp5 hh hcap
      go_enter Try.func16, Try.ntmps16
      go_wp2_with fail
      refine hfind.mono ?_
      rintro e w1 ⟨rfl, hc1⟩
      have ha1 := (ha.chg hc1 (by simp [NoB])).cell 0 rfl
      have hsz := hc1.size
      go_wp2_with (at_builtin; refine wpList_app (RowOf.nil _ w.heap.size) (l2 := []) ⟨rfl, fun _ => ⟨rfl, rfl⟩, fun ad h => by cases h⟩ cellsA_len cellsA_one (by omega) 31 i0 _ 32 Try.underlying31 hi hz0 hz1 hz2 rfl rfl _ _ rfl rfl rfl (by simp) (by simp) hsz ?_; intro v2 w2 hr2 hg2 _; refine stop ?_)
      unfold Stop
      rw [List.nil_append] at hr2
      have hsz2 := Nat.le_trans hsz hg2.size
      have hb2 := At.new w2 (cellsA ⟨tx, role, now + 4, 0⟩) 34
      go_wp2_with (at_builtin; refine wpList_app (hr2.alloc _) (SrcOf.one hb2) cellsA_len cellsA_one (by omega) 31 i0 _ 32 Try.underlying31 hi hz0 hz1 hz2 rfl rfl _ _ rfl rfl rfl (by simp [maxLen]) (by simp) (by simp; omega) ?_; intro v3 w3 hr3 hg3 _; refine stop ?_)
      unfold Stop
      have hc3 : Chg NoB w w3 := ((hc1.grown hg2 (by simp [Value.ownBlock])).alloc _).grown hg3 (fun g hg hlt => absurd (hr2.ge g hg).1 (by omega))
      have ha3 := ha.chg hc3 (by simp [NoB])
      have hc3' := ha3.cell 0 rfl
      have hf3 := ha3.frozen 0
      go_wp2_with (at_builtin; refine stop ?_)
      unfold Stop
      refine wpList_app hr3 (l2 := []) ⟨rfl, fun _ => ⟨rfl, rfl⟩, fun ad h => by cases h⟩ cellsA_len cellsA_one (by omega) 31 i0 _ 32 Try.underlying31 hi hz0 hz1 hz2 rfl rfl _ _ rfl rfl rfl (by simp [maxLen]) (by simp) (Nat.le_trans (Nat.le_trans hsz2 (by simp)) hg3.size) ?_
      intro v4 w4 hr4 hg4 _
      have hc4 : Chg NoB w w4 := hc3.grown hg4 (fun g hg hlt => absurd (hr3.ge g hg).1 (by omega))
      have ha4 := ha.chg hc4 (by simp [NoB])
      have hf4 := ha4.frozen 0
      have hcell4 := ha4.cell 0 rfl
      have HL' := HL.out
      simp only [List.take_nil, List.drop_nil] at HL'
      rw [List.nil_append] at hr4
      rw [List.nil_append] at HL'
      rw [← HL'] at hr4
      clear HL'
      obtain ⟨ao4, n4, cap4, rfl⟩ := hr4.slice
      go_wp2_with fail
      go_ret
      refine ⟨rfl, _, ⟨ha4.setCell 0 _, (hr4.mono (Nat.zero_le _)).chg ((Chg.refl (· = bR) w4).setCell (p := ⟨bR, 0, none⟩) (fun _ => rfl) _) (fun g hg e => by have := (hr4.ge g hg).1; omega)⟩, (hc4.mono (T := (· = bR)) (by simp [NoB])).setCell (p := ⟨bR, 0, none⟩) (fun _ => rfl) _, fun g hg => (hr4.ge g hg).1⟩
    | some ad =>
      obtain ⟨g, rfl, _⟩ := hsome ad rfl
      clear hnil hsome
      have hd9 : decide ((1024 : Int) ≤ (l.length : Int)) = false := by
        rcases hh with h | h
        · cases h
        · simp; omega
      go_enter Try.func16, Try.ntmps16
      go_wp2_with fail
      refine hfind.mono ?_
      rintro e w1 ⟨rfl, hc1⟩
      have ha1 := (ha.chg hc1 (by simp [NoB])).cell 0 rfl
      have hrow1 := hrow.chg hc1 (by simp [NoB])
      have hsz := hc1.size
      go_wp2_with (at_builtin; refine wpList_app (RowOf.nil _ w.heap.size) (hrow1.take p hfl) cellsA_len cellsA_one (by omega) 31 i0 _ 32 Try.underlying31 hi hz0 hz1 hz2 rfl rfl _ _ rfl rfl rfl (by simp [maxLen]; omega) (by simp; omega) hsz ?_; intro v2 w2 hr2 hg2 _; refine stop ?_)
      unfold Stop
      rw [List.nil_append] at hr2
      have hsz2 := Nat.le_trans hsz hg2.size
      have hb2 := At.new w2 (cellsA ⟨tx, role, now + 4, 0⟩) 34
      have hlp : (List.take p l).length = p := by simp; omega
      go_wp2_with (at_builtin; refine wpList_app (hr2.alloc _) (SrcOf.one hb2) cellsA_len cellsA_one (by omega) 31 i0 _ 32 Try.underlying31 hi hz0 hz1 hz2 rfl rfl _ _ rfl rfl rfl (by rw [hlp]; simp [maxLen]; omega) (by rw [hlp]; omega) (by simp; omega) ?_; intro v3 w3 hr3 hg3 _; refine stop ?_)
      unfold Stop
      have hc3 : Chg NoB w w3 := ((hc1.grown hg2 (by simp [Value.ownBlock])).alloc _).grown hg3 (fun g hg hlt => absurd (hr2.ge g hg).1 (by omega))
      have ha3 := ha.chg hc3 (by simp [NoB])
      have hc3' := ha3.cell 0 rfl
      have hf3 := ha3.frozen 0
      have hrow3 := hrow.chg hc3 (by simp [NoB])
      have hll : (List.take p l ++ [(⟨tx, role, now + 4, 0⟩ : Alarm)]).length = p + 1 := by simp; omega
      go_wp2_with (at_builtin; refine stop ?_)
      all_goals
        unfold Stop
        refine wpList_app hr3 (l2 := l.drop p) (by first | exact hrow3.drop_at cellsA_len (p) _ (by omega) | exact SrcOf.left (by omega)) cellsA_len cellsA_one (by omega) 31 i0 _ 32 Try.underlying31 hi hz0 hz1 hz2 rfl rfl _ _ rfl rfl rfl (by rw [hll]; simp [maxLen]; omega) (by rw [hll]; omega) (Nat.le_trans (Nat.le_trans hsz2 (by simp)) hg3.size) ?_
        intro v4 w4 hr4 hg4 _
        have hc4 : Chg NoB w w4 := hc3.grown hg4 (fun g hg hlt => absurd (hr3.ge g hg).1 (by omega))
        have ha4 := ha.chg hc4 (by simp [NoB])
        have hf4 := ha4.frozen 0
        have hcell4 := ha4.cell 0 rfl
        have HL' := HL.out
        simp only [Bool.false_eq_true, if_false] at HL'
        rw [← HL'] at hr4
        clear HL'
        obtain ⟨ao4, n4, cap4, rfl⟩ := hr4.slice
        go_wp2_with fail
        go_ret
        refine ⟨rfl, _, ⟨ha4.setCell 0 _, (hr4.mono (Nat.zero_le _)).chg ((Chg.refl (· = bR) w4).setCell (p := ⟨bR, 0, none⟩) (fun _ => rfl) _) (fun g hg e => by have := (hr4.ge g hg).1; omega)⟩, (hc4.mono (T := (· = bR)) (by simp [NoB])).setCell (p := ⟨bR, 0, none⟩) (fun _ => rfl) _, fun g hg => (hr4.ge g hg).1⟩
end Go.Proofs.Ytgpholdeiahldaa
