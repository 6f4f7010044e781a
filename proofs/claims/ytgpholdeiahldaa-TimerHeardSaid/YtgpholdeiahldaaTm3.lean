/- The timer's Start. Conditions: integers within int. -/
import Derived.Test.YtgpholdeiahldaaTm2
namespace Go.Proofs.Ytgpholdeiahldaa
open Go.RowKit Go.Maps
def badStart (tx role now : Int) : Prop := tx < 1 ∨ tx > 1099511627776 ∨ role < 1 ∨ role > 3 ∨ now < 0 ∨ now > 1099511627776
instance (tx role now : Int) : Decidable (badStart tx role now) := by unfold badStart; infer_instance
/-- The error that Start answers. -/
def startErr (l : List (Key × Alarm)) (tx role now : Int) : Int :=
  if badStart tx role now then 1 else if has0 l tx role = false ∧ 1024 ≤ l.length then 162 else 0
def startMap (l : List (Key × Alarm)) (tx role now : Int) : List (Key × Alarm) :=
  if startErr l tx role now = 0 then mput l (tx, role) ⟨tx, role, now + 4, 0⟩ else l
theorem start_nil (tx role now : Int) (w : World) : Calls Try.prog 12 #[.pointer none, .int .i64 tx, .int .i64 role, .int .i64 now] w fun e w' => e = .returned (.int .i64 2) ∧ w' = w := by
  go_enter Try.func12, Try.ntmps12
  go_wp2
  go_ret
  exact ⟨rfl, rfl⟩
set_option maxHeartbeats 1000000 in
set_option maxRecDepth 100000 in
theorem start_bad (bt : Nat) (tx role now : Int) (w : World) (h : badStart tx role now) : Calls Try.prog 12 #[.pointer (some ⟨bt, 0, none⟩), .int .i64 tx, .int .i64 role, .int .i64 now] w fun e w' => e = .returned (.int .i64 1) ∧ w' = w := by
  unfold badStart at h
  go_enter Try.func12, Try.ntmps12
  go_wp2
  all_goals first | (go_ret; exact ⟨rfl, rfl⟩) | (exfalso; omega)
set_option maxHeartbeats 1000000 in
set_option maxRecDepth 100000 in
theorem start_full (bt bm : Nat) (l : List (Key × Alarm)) (tx role now : Int) (w : World) (ht : TAt w bt bm l) (hb : ¬ badStart tx role now) (hh : has0 l tx role = false) (hlen : 1024 ≤ l.length) :
    Calls Try.prog 12 #[.pointer (some ⟨bt, 0, none⟩), .int .i64 tx, .int .i64 role, .int .i64 now] w fun e w' => e = .returned (.int .i64 162) ∧ Chg NoB w w' := by
  unfold badStart at hb
  have h1 : I64 tx := by unfold I64; omega
  have h2 : I64 role := by unfold I64; omega
  have hkey := key_lit (p := (tx, role)) h1 h2
  obtain ⟨ha, hm⟩ := ht
  have hc := ha.cell 0 (v := .map (some bm)) rfl
  have hlt := ha.lt
  have hf : found encA (encA ⟨0, 0, 0, 0⟩) true (mget l (tx, role)) = .tuple #[encA (look0 l tx role), .bool (has0 l tx role)] := found_ok _ _
  rw [hh] at hf
  clear hh
  generalize look0 l tx role = a at hf
  obtain ⟨a1, a2, a3, a4⟩ := a
  have hn5 : 0 ≤ now := by omega
  have hn6 : now ≤ 1099511627776 := by omega
  have hb1 : decide (tx < 1) = false := by simp; omega
  have hb2 : decide (1099511627776 < tx) = false := by simp; omega
  have hb3 : decide (role < 1) = false := by simp; omega
  have hb4 : decide (3 < role) = false := by simp; omega
  have hb5 : decide (now < 0) = false := by simp; omega
  have hb6 : decide (1099511627776 < now) = false := by simp; omega
  clear hb
  have hL : ∀ W : World, W.heap[bm]? = w.heap[bm]? → (Instr.lookup 50 (.map (some bm)) (.agg #[.int .i64 tx, .int .i64 role]) true).run Try.prog W = .ok (.tuple #[.agg #[.int .i64 a1, .int .i64 a2, .int .i64 a3, .int .i64 a4], .bool false]) W := fun W hW => by
    have := (hm.of_heap hW).look law54 encK_inj Try.underlying50 zero34 hkey true
    rw [hf] at this
    exact this
  have hL1 := hL ((w.alloc (.cells #[.int .i64 tx, .int .i64 role] 54)).drew) (Below.heap_alloc _ _ _ hm.lt)
  have hL2 := hL (((w.alloc (.cells #[.int .i64 tx, .int .i64 role] 54)).alloc (.cells #[.int .i64 0, .int .i64 0, .int .i64 0, .int .i64 0] 34)).drew) ((Below.heap_alloc _ _ _ (by have := hm.lt; simp; omega)).trans (Below.heap_alloc _ _ _ hm.lt))
  have hlen' : (1024 : Int) ≤ l.length := by omega
  clear hL hf
  go_enter Try.func12, Try.ntmps12
  go_wp2
  go_region
  all_goals
    go_wp2_with (rw [(((hm.alloc _).alloc _).drew).len Try.underlying50])
    go_ret
    exact ⟨rfl, (((Chg.refl _ w).alloc _).alloc _).drew⟩
set_option maxHeartbeats 1000000 in
set_option maxRecDepth 100000 in
theorem start_ok (bt bm : Nat) (l : List (Key × Alarm)) (tx role now : Int) (w : World) (ht : TAt w bt bm l) (hb : ¬ badStart tx role now) (hh : has0 l tx role = true ∨ l.length < 1024) :
    Calls Try.prog 12 #[.pointer (some ⟨bt, 0, none⟩), .int .i64 tx, .int .i64 role, .int .i64 now] w fun e w' => e = .returned (.int .i64 0) ∧ TAt w' bt bm (mput l (tx, role) ⟨tx, role, now + 4, 0⟩) ∧ Chg (· = bm) w w' := by
  unfold badStart at hb
  have h1 : I64 tx := by unfold I64; omega
  have h2 : I64 role := by unfold I64; omega
  have hkey := key_lit (p := (tx, role)) h1 h2
  have hne : bm ≠ bt := ht.2.ne_at ht.1
  obtain ⟨ha, hm⟩ := ht
  have hc := ha.cell 0 (v := .map (some bm)) rfl
  have hlt := ha.lt
  have hf : found encA (encA ⟨0, 0, 0, 0⟩) true (mget l (tx, role)) = .tuple #[encA (look0 l tx role), .bool (has0 l tx role)] := found_ok _ _
  generalize look0 l tx role = a at hf
  generalize has0 l tx role = c at hf hh
  obtain ⟨a1, a2, a3, a4⟩ := a
  have hn5 : 0 ≤ now := by omega
  have hn6 : now ≤ 1099511627776 := by omega
  have hb1 : decide (tx < 1) = false := by simp; omega
  have hb2 : decide (1099511627776 < tx) = false := by simp; omega
  have hb3 : decide (role < 1) = false := by simp; omega
  have hb4 : decide (3 < role) = false := by simp; omega
  have hb5 : decide (now < 0) = false := by simp; omega
  have hb6 : decide (1099511627776 < now) = false := by simp; omega
  clear hb
  have hL : ∀ W : World, W.heap[bm]? = w.heap[bm]? → (Instr.lookup 50 (.map (some bm)) (.agg #[.int .i64 tx, .int .i64 role]) true).run Try.prog W = .ok (.tuple #[.agg #[.int .i64 a1, .int .i64 a2, .int .i64 a3, .int .i64 a4], .bool c]) W := fun W hW => by
    have := (hm.of_heap hW).look law54 encK_inj Try.underlying50 zero34 hkey true
    rw [hf] at this
    exact this
  have hL1 := hL ((w.alloc (.cells #[.int .i64 tx, .int .i64 role] 54)).drew) (Below.heap_alloc _ _ _ hm.lt)
  have hL2 := hL (((w.alloc (.cells #[.int .i64 tx, .int .i64 role] 54)).alloc (.cells #[.int .i64 0, .int .i64 0, .int .i64 0, .int .i64 0] 34)).drew) ((Below.heap_alloc _ _ _ (by have := hm.lt; simp; omega)).trans (Below.heap_alloc _ _ _ hm.lt))
  clear hL hf
  have hd0 : ∀ W : World, Calls Try.prog 8 #[.int .i64 0] W fun e w' => e = .returned (.int .i64 4) ∧ w' = W := fun W => delay_any 0 W (by omega)
  cases c with
  | true =>
    clear hh
    go_enter Try.func12, Try.ntmps12
    go_wp2
    go_region
    all_goals
      go_wp2
      refine wp_tail_world 11 (by kernel_rfl) (by kernel_rfl) (fun W => TAt W bt bm l ∧ At W w.heap.size [.int .i64 tx, .int .i64 role] 54 ∧ Chg NoB w W) ⟨⟨((ha.alloc _).alloc _).drew.drew, ((hm.alloc _).alloc _).drew.drew⟩, ((At.new w [_, _] 54).alloc _).drew.drew, ((((Chg.refl _ w).alloc _).alloc _).drew).drew⟩ ?_
      rintro W ⟨⟨ha1, hm1⟩, hn1, hc1⟩
      have hx := ha1.cell 0 (v := .map (some bm)) rfl
      have hx2 := hn1.cell 0 rfl
      have hx3 := hn1.cell 1 rfl
      have hd := hd0 W
      have hw4 : IntKind.i64.wrap (now + 4) = now + 4 := IntWalk.i64_in _ (by omega)
      clear hd0 hL1 hL2
      simp only [List.take_succ_cons, List.take_zero, List.drop_succ_cons, List.drop_zero]
      repeat still_step
      still_call hd
      repeat still_step
      refine wpStill_nil ?_
      show wpList _ _ _ _ _ _
      go_wp2_with (at_mapUpdate; refine wpList_store hm1 law54 encK_inj Try.underlying50 rfl _ _ _ rfl rfl (tx, role) rfl ⟨tx, role, now + 4, 0⟩ rfl hkey ?_; intro w2 hm2 hg2)
      go_ret
      exact ⟨rfl, ⟨ha1.grown hg2 (by simpa using hne), hm2⟩, (hc1.mono (by simp [NoB])).grown hg2 (by simp)⟩
  | false =>
    have hh : (l.length : Int) < 1024 := by
      rcases hh with h | h
      · cases h
      · omega
    go_enter Try.func12, Try.ntmps12
    go_wp2
    go_region
    all_goals
      go_wp2_with (rw [(((hm.alloc _).alloc _).drew).len Try.underlying50])
      refine wp_tail_world 11 (by kernel_rfl) (by kernel_rfl) (fun W => TAt W bt bm l ∧ At W w.heap.size [.int .i64 tx, .int .i64 role] 54 ∧ Chg NoB w W) ⟨⟨((ha.alloc _).alloc _).drew.drew, ((hm.alloc _).alloc _).drew.drew⟩, ((At.new w [_, _] 54).alloc _).drew.drew, ((((Chg.refl _ w).alloc _).alloc _).drew).drew⟩ ?_
      rintro W ⟨⟨ha1, hm1⟩, hn1, hc1⟩
      have hx := ha1.cell 0 (v := .map (some bm)) rfl
      have hx2 := hn1.cell 0 rfl
      have hx3 := hn1.cell 1 rfl
      have hd := hd0 W
      have hw4 : IntKind.i64.wrap (now + 4) = now + 4 := IntWalk.i64_in _ (by omega)
      clear hd0 hL1 hL2
      simp only [List.take_succ_cons, List.take_zero, List.drop_succ_cons, List.drop_zero]
      repeat still_step
      still_call hd
      repeat still_step
      refine wpStill_nil ?_
      show wpList _ _ _ _ _ _
      go_wp2_with (at_mapUpdate; refine wpList_store hm1 law54 encK_inj Try.underlying50 rfl _ _ _ rfl rfl (tx, role) rfl ⟨tx, role, now + 4, 0⟩ rfl hkey ?_; intro w2 hm2 hg2)
      go_ret
      exact ⟨rfl, ⟨ha1.grown hg2 (by simpa using hne), hm2⟩, (hc1.mono (by simp [NoB])).grown hg2 (by simp)⟩
end Go.Proofs.Ytgpholdeiahldaa
