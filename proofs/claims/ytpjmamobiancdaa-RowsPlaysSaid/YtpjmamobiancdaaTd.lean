/- The table of rows: what Put does. Conditions: at most 2^40 members and locks. -/
import Derived.Test.YtpjmamobiancdaaTc
namespace Go.Proofs.Ytpjmamobiancdaa
open Go.RowKit Go.Maps Go.BigFrame
theorem put_nil (r : Rw) (mv lv : Value) (w : World) : Calls Try.prog 16 #[.pointer none, rowV r mv lv] w fun e w' => e = .returned (.int .i64 2) ∧ Chg NoB w w' := by
  have hm := fun W => may_nil r mv lv W
  unfold rowV at *
  go_enter Try.func16, Try.ntmps16
  go_wp2_with (go_at_call 29; refine (hm _).mono ?_; rintro e w2 ⟨rfl, hc2⟩)
  go_ret
  exact ⟨rfl, ((Chg.refl _ w).alloc _).trans hc2 (by simp [NoB])⟩
theorem put_bad (bt : Nat) (r : Rw) (mv lv : Value) (w : World) (hm0 : Sees w cellsI mv r.ms) (hl0 : Sees w cellsL lv r.ls) (hml : r.ms.length ≤ 1099511627776) (hll : r.ls.length ≤ 1099511627776) (hB : rowB r = false) :
    Calls Try.prog 16 #[.pointer (some ⟨bt, 0, none⟩), rowV r mv lv] w fun e w' => e = .returned (.int .i64 1) ∧ Chg NoB w w' := by
  have hm := fun W hW => may_any bt r mv lv W (hm0.no hW) (hl0.no hW) hml hll
  rw [show mayI r = 1 by simp [mayI, hB]] at hm
  have hm' := hm _ ((Chg.refl NoB w).alloc (.cells #[.int .i64 r.tx, .int .i64 r.state, .int .i64 r.first, .int .i64 r.last, .int .i64 r.undo, .int .i64 r.coord, mv, lv] 32))
  clear hm hm0 hl0 hml hll hB
  unfold rowV at *
  go_enter Try.func16, Try.ntmps16
  go_wp2_with (go_at_call 29; refine hm'.mono ?_; clear hm'; rintro e w2 ⟨rfl, hc2⟩)
  go_ret
  exact ⟨rfl, ((Chg.refl _ w).alloc _).trans hc2 (by simp [NoB])⟩
set_option maxHeartbeats 4000000 in
set_option maxRecDepth 100000 in
theorem put_no (bt bm : Nat) (l : List (Int × X)) (r : Rw) (mv lv : Value) (w : World) (ht : TAt w bt bm l) (hm0 : Sees w cellsI mv r.ms) (hl0 : Sees w cellsL lv r.ls) (hB : rowB r = true) (hh : hasX l r.tx = false) :
    Calls Try.prog 16 #[.pointer (some ⟨bt, 0, none⟩), rowV r mv lv] w fun e w' => e = .returned (.int .i64 160) ∧ Chg NoB w w' := by
  obtain ⟨hml, hll, htx, htx2⟩ := rowB_len hB
  have hm := fun W hW => may_any bt r mv lv W (hm0.no hW) (hl0.no hW) (by omega) (by omega)
  rw [show mayI r = 0 by simp [mayI, hB]] at hm
  obtain ⟨am, cm, rfl⟩ := hm0.shape
  obtain ⟨al, cl, rfl⟩ := hl0.shape
  have hL := fun W hW => ht.looked (tx := r.tx) (by unfold I64; omega) W hW
  rw [hh] at hL
  have hx := ht.look r.tx
  obtain ⟨tx, state, first, last, undo, coord, ms, ls⟩ := r
  simp only at *
  generalize lookX l tx = x at hL hx
  obtain ⟨⟨tx', state', first', last', undo', coord', ms', ls'⟩, mv', lv'⟩ := x
  obtain ⟨am', cm', al', cl', e1, e2⟩ := hx.shapes
  simp only at e1 e2
  subst e1
  subst e2
  unfold valR at hL
  unfold rowV at *
  simp only at hL
  have hbox := At.new w [.int .i64 tx, .int .i64 state, .int .i64 first, .int .i64 last, .int .i64 undo, .int .i64 coord, .slice am ms.length cm, .slice al ls.length cl] 32
  have hcb := (Chg.refl NoB w).alloc (.cells #[.int .i64 tx, .int .i64 state, .int .i64 first, .int .i64 last, .int .i64 undo, .int .i64 coord, .slice am ms.length cm, .slice al ls.length cl] 32)
  have hm' := hm _ hcb
  have hmlt := ht.mp.lt
  have hhd := ht.hd
  clear hm hm0 hl0 hx
  go_enter Try.func16, Try.ntmps16
  go_upto_region 4 with (first | (go_at_call 29; refine hm'.mono ?_; clear hm'; rintro e w2 ⟨rfl, hc2⟩) | fail)
  have hcw := hcb.trans hc2 (by simp [NoB])
  have hL1 := hL w2.drew (hcw.block _ hmlt (by simp [NoB]))
  have hL2 := hL (w2.alloc (.cells #[.int .i64 0, .int .i64 0, .int .i64 0, .int .i64 0, .int .i64 0, .int .i64 0, .slice none 0 0, .slice none 0 0] 32)).drew ((Below.heap_alloc _ _ _ (Nat.lt_of_lt_of_le hmlt hcw.size)).trans (hcw.block _ hmlt (by simp [NoB])))
  have ha := hhd.chg hcw (by simp [NoB])
  have hb := hbox.chg hc2 (by simp [NoB])
  have c0 := ha.cell 0 rfl
  have b0 := hb.cell 0 rfl
  have hlt1 := ha.lt
  have hlt2 := hb.lt
  clear hL hbox hhd hb ha ht
  go_region
  all_goals
    go_wp2
    go_ret
    exact ⟨rfl, (hcw.alloc _).drew⟩
set_option maxHeartbeats 4000000 in
set_option maxRecDepth 100000 in
theorem put_ok (bt bm : Nat) (l : List (Int × X)) (r : Rw) (mv lv : Value) (w : World) (ht : TAt w bt bm l) (hm0 : Sees w cellsI mv r.ms) (hl0 : Sees w cellsL lv r.ls) (hB : rowB r = true) (hh : hasX l r.tx = true) :
    Calls Try.prog 16 #[.pointer (some ⟨bt, 0, none⟩), rowV r mv lv] w fun e w' => e = .returned (.int .i64 0) ∧ ∃ mv' lv', TAt w' bt bm (mput l r.tx (r, mv', lv')) ∧ Chg (· = bm) w w' := by
  obtain ⟨hml, hll, htx, htx2⟩ := rowB_len hB
  have hm := fun W hW => may_any bt r mv lv W (hm0.no hW) (hl0.no hW) (by omega) (by omega)
  rw [show mayI r = 0 by simp [mayI, hB]] at hm
  obtain ⟨am, cm, rfl⟩ := hm0.shape
  obtain ⟨al, cl, rfl⟩ := hl0.shape
  have hL := fun W hW => ht.looked (tx := r.tx) (by unfold I64; omega) W hW
  rw [hh] at hL
  have hx := ht.look r.tx
  obtain ⟨tx, state, first, last, undo, coord, ms, ls⟩ := r
  simp only at *
  generalize lookX l tx = x at hL hx
  obtain ⟨⟨tx', state', first', last', undo', coord', ms', ls'⟩, mv', lv'⟩ := x
  obtain ⟨am', cm', al', cl', e1, e2⟩ := hx.shapes
  simp only at e1 e2
  subst e1
  subst e2
  unfold valR at hL
  unfold rowV at *
  simp only at hL
  have hbox := At.new w [.int .i64 tx, .int .i64 state, .int .i64 first, .int .i64 last, .int .i64 undo, .int .i64 coord, .slice am ms.length cm, .slice al ls.length cl] 32
  have hcb := (Chg.refl NoB w).alloc (.cells #[.int .i64 tx, .int .i64 state, .int .i64 first, .int .i64 last, .int .i64 undo, .int .i64 coord, .slice am ms.length cm, .slice al ls.length cl] 32)
  have hm' := hm _ hcb
  have hmlt := ht.mp.lt
  have hhd := ht.hd
  have hm0' := hm0
  have hl0' := hl0
  clear hm hm0 hl0 hx
  go_enter Try.func16, Try.ntmps16
  go_upto_region 4 with (first | (go_at_call 29; refine hm'.mono ?_; clear hm'; rintro e w2 ⟨rfl, hc2⟩) | fail)
  have hcw := hcb.trans hc2 (by simp [NoB])
  have hL1 := hL w2.drew (hcw.block _ hmlt (by simp [NoB]))
  have hL2 := hL (w2.alloc (.cells #[.int .i64 0, .int .i64 0, .int .i64 0, .int .i64 0, .int .i64 0, .int .i64 0, .slice none 0 0, .slice none 0 0] 32)).drew ((Below.heap_alloc _ _ _ (Nat.lt_of_lt_of_le hmlt hcw.size)).trans (hcw.block _ hmlt (by simp [NoB])))
  have ha := hhd.chg hcw (by simp [NoB])
  have hb := hbox.chg hc2 (by simp [NoB])
  have c0 := ha.cell 0 rfl
  have b0 := hb.cell 0 rfl
  have hlt1 := ha.lt
  have hlt2 := hb.lt
  have hmp := ht.mp.chg hcw (by simp [NoB])
  clear hL hb ha
  go_region
  all_goals
    go_upto_region 7 with (fail)
    have hcw3 := (hcw.alloc (.cells #[.int .i64 tx', .int .i64 state', .int .i64 first', .int .i64 last', .int .i64 undo', .int .i64 coord', .slice am' ms'.length cm', .slice al' ls'.length cl'] 32)).drew.drew
    have hb3 := (((hbox.chg hc2 (by simp [NoB])).alloc (.cells #[.int .i64 tx', .int .i64 state', .int .i64 first', .int .i64 last', .int .i64 undo', .int .i64 coord', .slice am' ms'.length cm', .slice al' ls'.length cl'] 32)).drew).drew
    generalize (w2.alloc (.cells #[.int .i64 tx', .int .i64 state', .int .i64 first', .int .i64 last', .int .i64 undo', .int .i64 coord', .slice am' ms'.length cm', .slice al' ls'.length cl'] 32)).drew = w3 at *
    clear hL1 hL2 hc2 hcw c0 b0 hlt1 hlt2 hmp
    have ht3 := ht.no hcw3
    have hown := own_sl ⟨tx, state, first, last, undo, coord, ms, ls⟩ _ _ w3.drew (hm0'.no hcw3) (hl0'.no hcw3) (by simp only; omega) (by simp only; omega)
    unfold rowV at hown
    simp only at hown
    have hkey := key_lit (n := tx) (by unfold I64; omega)
    have c0 := ht3.hd.cell 0 rfl
    have b0 := hb3.cell 0 rfl
    have b1 := hb3.cell 1 rfl
    have b2 := hb3.cell 2 rfl
    have b3 := hb3.cell 3 rfl
    have b4 := hb3.cell 4 rfl
    have b5 := hb3.cell 5 rfl
    have b6 := hb3.cell 6 rfl
    have b7 := hb3.cell 7 rfl
    have hne := ht3.ne
    have hS := And.intro c0 (And.intro b0 (And.intro b1 (And.intro b2 (And.intro b3 (And.intro b4 (And.intro b5 (And.intro b6 b7)))))))
    clear c0 b0 b1 b2 b3 b4 b5 b6 b7
    go_region_held3 (fun W => W.cell? ⟨bt, 0, none⟩ = some (.map (some bm)) ∧ W.cell? ⟨w.heap.size, 0, none⟩ = some (.int .i64 tx) ∧ W.cell? ⟨w.heap.size, 1, none⟩ = some (.int .i64 state) ∧ W.cell? ⟨w.heap.size, 2, none⟩ = some (.int .i64 first) ∧ W.cell? ⟨w.heap.size, 3, none⟩ = some (.int .i64 last) ∧ W.cell? ⟨w.heap.size, 4, none⟩ = some (.int .i64 undo) ∧ W.cell? ⟨w.heap.size, 5, none⟩ = some (.int .i64 coord) ∧ W.cell? ⟨w.heap.size, 6, none⟩ = some (.slice am ms.length cm) ∧ W.cell? ⟨w.heap.size, 7, none⟩ = some (.slice al ls.length cl))
      (first | assumption) (first
      | (go_at_call 30; refine hown.mono ?_; clear hown; rintro e w4 ⟨a1, k1, a2, k2, rfl, hR4, hc4⟩; obtain ⟨w5, hrun5, hm5, hg5⟩ := (ht3.mp.chg hc4 (by simp [NoB])).store law3 encN_inj Try.underlying57 hkey (⟨tx, state, first, last, undo, coord, ms, ls⟩, .slice a1 ms.length k1, .slice a2 ls.length k2); change (Instr.mapUpdate 57 (.map (some bm)) (.int .i64 tx) (.agg #[.int .i64 tx, .int .i64 state, .int .i64 first, .int .i64 last, .int .i64 undo, .int .i64 coord, .slice a1 ms.length k1, .slice a2 ls.length k2])).run Try.prog w4 = .ok () w5 at hrun5; have hS4 := S9 hS hc4; have hS5 := S9g hS4 (ht3.mp.chg hc4 (by simp [NoB])) hg5))
    go_wp2
    go_ret
    exact ⟨rfl, _, _, (ht3.no hc4).put (hR4.mono (Nat.zero_le _)) hB hm5 hg5, ((hcw3.trans hc4 (by simp [NoB])).mono (by simp [NoB])).grown hg5 (by simp)⟩
end Go.Proofs.Ytpjmamobiancdaa
