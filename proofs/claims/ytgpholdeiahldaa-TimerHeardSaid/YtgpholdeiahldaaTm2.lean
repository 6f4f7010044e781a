/- The timer's Get, Stop and Start: what they answer, and what becomes of the table. Conditions: integers within int. -/
import Derived.Test.YtgpholdeiahldaaTm
namespace Go.Proofs.Ytgpholdeiahldaa
open Go.RowKit Go.Maps
/-- What Get answers: an alarm (zeros where there is none). -/
def look0 (l : List (Key × Alarm)) (tx role : Int) : Alarm := (mget l (tx, role)).getD ⟨0, 0, 0, 0⟩
def has0 (l : List (Key × Alarm)) (tx role : Int) : Bool := (mget l (tx, role)).isSome
set_option maxHeartbeats 400000 in
theorem get_any (bt bm : Nat) (l : List (Key × Alarm)) (tx role : Int) (w : World) (ht : TAt w bt bm l) (h1 : I64 tx) (h2 : I64 role) :
    Calls Try.prog 18 #[.pointer (some ⟨bt, 0, none⟩), .int .i64 tx, .int .i64 role] w fun e w' =>
      e = .returned (.tuple #[encA (look0 l tx role), .bool (has0 l tx role)]) ∧ Chg NoB w w' := by
  obtain ⟨ha, hm⟩ := ht
  have hc := ha.cell 0 (v := .map (some bm)) rfl
  have hlt := ha.lt
  have hkey := key_lit (p := (tx, role)) h1 h2
  have hf : Hid (found encA (encA ⟨0, 0, 0, 0⟩) true (mget l (tx, role)) = .tuple #[encA (look0 l tx role), .bool (has0 l tx role)]) := found_ok _ _
  generalize look0 l tx role = a at hf ⊢
  generalize has0 l tx role = c at hf ⊢
  obtain ⟨a1, a2, a3, a4⟩ := a
  go_enter Try.func18, Try.ntmps18
  go_wp2_with (at_lookup; refine wpList_look (hm.alloc _) law54 encK_inj Try.underlying50 zero34 rfl _ _ true rfl rfl (tx, role) rfl hkey (.tuple #[.agg #[.int .i64 a1, .int .i64 a2, .int .i64 a3, .int .i64 a4], .bool c]) hf ?_)
  exact bodyPost_ret (v := .tuple #[.agg #[.int .i64 a1, .int .i64 a2, .int .i64 a3, .int .i64 a4], .bool c]) (by simp [results, Try.results18, go_sem]) rfl ⟨rfl, ((Chg.refl _ w).alloc _).alloc _⟩
theorem get_nil (tx role : Int) (w : World) : Calls Try.prog 18 #[.pointer none, .int .i64 tx, .int .i64 role] w fun e w' => e = .returned (.tuple #[encA ⟨0, 0, 0, 0⟩, .bool false]) ∧ Chg NoB w w' := by
  go_enter Try.func18, Try.ntmps18
  go_wp2
  exact bodyPost_ret (v := .tuple #[.agg #[.int .i64 0, .int .i64 0, .int .i64 0, .int .i64 0], .bool false]) (by simp [results, Try.results18, go_sem]) rfl ⟨rfl, ((Chg.refl _ w).alloc _)⟩
set_option maxHeartbeats 400000 in
theorem stop_any (bt bm : Nat) (l : List (Key × Alarm)) (tx role : Int) (w : World) (ht : TAt w bt bm l) (h1 : I64 tx) (h2 : I64 role) :
    Calls Try.prog 13 #[.pointer (some ⟨bt, 0, none⟩), .int .i64 tx, .int .i64 role] w fun e w' =>
      e = .returned (.bool (has0 l tx role)) ∧ TAt w' bt bm (mdel l (tx, role)) ∧ Chg (· = bm) w w' := by
  have hkey := key_lit (p := (tx, role)) h1 h2
  have hg := get_any bt bm l tx role w ht h1 h2
  have hne : bm ≠ bt := ht.2.ne_at ht.1
  have hno : Hid (has0 l tx role = false → mdel l (tx, role) = l) := fun h => mdel_none (fun hm => by
    unfold has0 at h
    rw [mget_isSome.2 hm] at h
    cases h)
  generalize has0 l tx role = c at hg hno ⊢
  generalize look0 l tx role = a at hg
  obtain ⟨a1, a2, a3, a4⟩ := a
  obtain ⟨ha, hm⟩ := ht
  cases c with
  | true =>
    go_enter Try.func13, Try.ntmps13
    go_wp2_with fail
    refine hg.mono ?_
    clear hg
    rintro e w1 ⟨rfl, hc1⟩
    have ha1 := ha.chg hc1 (by simp [NoB])
    have hm1 := hm.chg hc1 (by simp [NoB])
    have hcell := ha1.cell 0 (v := .map (some bm)) rfl
    have hlt := ha1.lt
    unfold encA
    go_wp2_with (at_delete; refine wpList_drop (hm1.alloc _) law54 encK_inj Try.underlying50 rfl _ _ rfl rfl (tx, role) rfl hkey ?_; intro w2 hm2 hg2)
    go_ret
    exact ⟨rfl, ⟨(ha1.alloc _).grown hg2 (by simpa using hne), hm2⟩, ((hc1.mono (by simp [NoB])).alloc _).grown hg2 (by simp)⟩
  | false =>
    have hno := hno.out rfl
    rw [hno]
    clear hno
    go_enter Try.func13, Try.ntmps13
    go_wp2_with fail
    refine hg.mono ?_
    clear hg
    rintro e w1 ⟨rfl, hc1⟩
    have ha1 := ha.chg hc1 (by simp [NoB])
    have hm1 := hm.chg hc1 (by simp [NoB])
    unfold encA
    go_wp2_with fail
    go_ret
    exact ⟨rfl, ⟨ha1.alloc _, hm1.alloc _⟩, (hc1.mono (by simp [NoB])).alloc _⟩
theorem stop_nil (tx role : Int) (w : World) : Calls Try.prog 13 #[.pointer none, .int .i64 tx, .int .i64 role] w fun e w' => e = .returned (.bool false) ∧ Chg NoB w w' := by
  have hg := get_nil tx role w
  go_enter Try.func13, Try.ntmps13
  go_wp2_with fail
  refine hg.mono ?_
  clear hg
  rintro e w1 ⟨rfl, hc1⟩
  unfold encA
  go_wp2_with fail
  go_ret
  exact ⟨rfl, hc1.alloc _⟩
end Go.Proofs.Ytgpholdeiahldaa
