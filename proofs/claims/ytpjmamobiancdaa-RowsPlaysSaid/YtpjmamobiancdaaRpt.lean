/- The reference's table of rows: what Put does. Conditions: at most 2^32 rows. -/
import Derived.Test.YtpjmamobiancdaaRa
import Derived.Test.YtpjmamobiancdaaTc
import Derived.Test.YtpjmamobiancdaaRow2
namespace Go.Proofs.Ytpjmamobiancdaa
open Go.RowKit Go.Maps Go.BigFrame
/-- A world in which eight cells from a place on are set. -/
def setp (w : World) (g o : Nat) (v0 v1 v2 v3 v4 v5 v6 v7 : Value) : World :=
  (((((((w.setCell ⟨g, o, none⟩ v0).setCell ⟨g, o + 1, none⟩ v1).setCell ⟨g, o + 2, none⟩ v2).setCell ⟨g, o + 3, none⟩ v3).setCell ⟨g, o + 4, none⟩ v4).setCell ⟨g, o + 5, none⟩ v5).setCell ⟨g, o + 6, none⟩ v6).setCell ⟨g, o + 7, none⟩ v7
theorem Chg.setp {S : Nat → Prop} {a w : World} (h : Chg S a w) {g o : Nat} (hg : g < a.heap.size → S g) (v0 v1 v2 v3 v4 v5 v6 v7 : Value) : Chg S a (setp w g o v0 v1 v2 v3 v4 v5 v6 v7) :=
  (((((((h.setCell (p := ⟨g, o, none⟩) hg v0).setCell (p := ⟨g, o + 1, none⟩) hg v1).setCell (p := ⟨g, o + 2, none⟩) hg v2).setCell (p := ⟨g, o + 3, none⟩) hg v3).setCell (p := ⟨g, o + 4, none⟩) hg v4).setCell (p := ⟨g, o + 5, none⟩) hg v5).setCell (p := ⟨g, o + 6, none⟩) hg v6).setCell (p := ⟨g, o + 7, none⟩) hg v7
theorem XRow.setp {w : World} {base g n cap : Nat} {L : List X} (h : XRow w base (.slice (some ⟨g, 0, none⟩) n cap) L) {p : Nat} {x : X} (hx : L[p]? = some x) (r : Rw) (mv lv : Value) :
    XRow (Go.Proofs.Ytpjmamobiancdaa.setp w g (p * 8) (.int .i64 r.tx) (.int .i64 r.state) (.int .i64 r.first) (.int .i64 r.last) (.int .i64 r.undo) (.int .i64 r.coord) mv lv) base (.slice (some ⟨g, 0, none⟩) n cap) (L.set p (r, mv, lv)) := by
  have hp := (List.getElem?_eq_some_iff.1 hx).1
  obtain ⟨⟨tx', state', first', last', undo', coord', ms', ls'⟩, mv', lv'⟩ := x
  obtain ⟨tx, state, first, last, undo, coord, ms, ls⟩ := r
  have st : ∀ (w : World) (y z : X) (i : Nat) (u : Value), i < 8 → XRow w base (.slice (some ⟨g, 0, none⟩) n cap) (L.set p y) → cellsR z = (cellsR y).set i u → XRow (w.setCell ⟨g, p * 8 + i, none⟩ u) base (.slice (some ⟨g, 0, none⟩) n cap) (L.set p z) := fun w y z i u hi h he => by
    have := RowOf.setCell h cellsR_len (j := p) (a := y) (a' := z) (u := u) (List.getElem?_set_self hp) hi he
    rwa [List.set_set] at this
  have h0 : XRow (w.setCell ⟨g, p * 8 + 0, none⟩ (.int .i64 tx)) base (.slice (some ⟨g, 0, none⟩) n cap) (L.set p ((⟨tx, state', first', last', undo', coord', ms, ls⟩, mv', lv') : X)) := RowOf.setCell h cellsR_len hx (by omega) rfl
  have h1 := st _ _ ((⟨tx, state, first', last', undo', coord', ms, ls⟩, mv', lv') : X) 1 (.int .i64 state) (by omega) h0 rfl
  have h2 := st _ _ ((⟨tx, state, first, last', undo', coord', ms, ls⟩, mv', lv') : X) 2 (.int .i64 first) (by omega) h1 rfl
  have h3 := st _ _ ((⟨tx, state, first, last, undo', coord', ms, ls⟩, mv', lv') : X) 3 (.int .i64 last) (by omega) h2 rfl
  have h4 := st _ _ ((⟨tx, state, first, last, undo, coord', ms, ls⟩, mv', lv') : X) 4 (.int .i64 undo) (by omega) h3 rfl
  have h5 := st _ _ ((⟨tx, state, first, last, undo, coord, ms, ls⟩, mv', lv') : X) 5 (.int .i64 coord) (by omega) h4 rfl
  have h6 := st _ _ ((⟨tx, state, first, last, undo, coord, ms, ls⟩, mv, lv') : X) 6 mv (by omega) h5 rfl
  exact st _ _ ((⟨tx, state, first, last, undo, coord, ms, ls⟩, mv, lv) : X) 7 lv (by omega) h6 rfl
theorem S9c {S : Nat → Prop} {w w' : World} {a0 a1 a2 a3 a4 a5 a6 a7 a8 : Addr} {v0 v1 v2 v3 v4 v5 v6 v7 v8 : Value} (h : w.cell? a0 = some v0 ∧ w.cell? a1 = some v1 ∧ w.cell? a2 = some v2 ∧ w.cell? a3 = some v3 ∧ w.cell? a4 = some v4 ∧ w.cell? a5 = some v5 ∧ w.cell? a6 = some v6 ∧ w.cell? a7 = some v7 ∧ w.cell? a8 = some v8) (c : Chg S w w')
    (n0 : ¬ S a0.block) (n1 : ¬ S a1.block) (n2 : ¬ S a2.block) (n3 : ¬ S a3.block) (n4 : ¬ S a4.block) (n5 : ¬ S a5.block) (n6 : ¬ S a6.block) (n7 : ¬ S a7.block) (n8 : ¬ S a8.block) :
    w'.cell? a0 = some v0 ∧ w'.cell? a1 = some v1 ∧ w'.cell? a2 = some v2 ∧ w'.cell? a3 = some v3 ∧ w'.cell? a4 = some v4 ∧ w'.cell? a5 = some v5 ∧ w'.cell? a6 = some v6 ∧ w'.cell? a7 = some v7 ∧ w'.cell? a8 = some v8 := by
  obtain ⟨h0, h1, h2, h3, h4, h5, h6, h7, h8⟩ := h
  exact ⟨c.cell h0 n0, c.cell h1 n1, c.cell h2 n2, c.cell h3 n3, c.cell h4 n4, c.cell h5 n5, c.cell h6 n6, c.cell h7 n7, c.cell h8 n8⟩
theorem rput_bad (bR : Nat) (r : Rw) (mv lv : Value) (w : World) (hm0 : Sees w cellsI mv r.ms) (hl0 : Sees w cellsL lv r.ls) (hml : r.ms.length ≤ 1099511627776) (hll : r.ls.length ≤ 1099511627776) (hB : rowB r = false) :
    Calls Try.prog 21 #[.pointer (some ⟨bR, 0, none⟩), rowV r mv lv] w fun e w' => e = .returned (.int .i64 1) ∧ Chg NoB w w' := by
  have hmay := fun W hW => rmay_any r mv lv W (hm0.no hW) (hl0.no hW) hml hll
  rw [hB] at hmay
  have hm' := hmay _ ((Chg.refl NoB w).alloc (.cells #[.int .i64 r.tx, .int .i64 r.state, .int .i64 r.first, .int .i64 r.last, .int .i64 r.undo, .int .i64 r.coord, mv, lv] 32))
  clear hmay hm0 hl0 hml hll hB
  unfold rowV at *
  go_enter Try.func21, Try.ntmps21
  go_wp2_with (go_at_call 17; refine hm'.mono ?_; clear hm'; rintro e w2 ⟨rfl, hc2⟩)
  go_ret
  exact ⟨rfl, ((Chg.refl _ w).alloc _).trans hc2 (by simp [NoB])⟩
set_option maxHeartbeats 2000000 in
theorem rput_no (base bR : Nat) (v : Value) (L : List X) (r : Rw) (mv lv : Value) (w : World) (hr : RAt w base bR v L) (hm0 : Sees w cellsI mv r.ms) (hl0 : Sees w cellsL lv r.ls) (hl : L.length ≤ 1099511627776) (hB : rowB r = true) (hh : thereB (L.map (·.1)) r.tx = false) :
    Calls Try.prog 21 #[.pointer (some ⟨bR, 0, none⟩), rowV r mv lv] w fun e w' => e = .returned (.int .i64 160) ∧ Chg NoB w w' := by
  obtain ⟨hml, hll, htx, htx2⟩ := rowB_len hB
  have hmay := fun W hW => rmay_any r mv lv W (hm0.no hW) (hl0.no hW) (by omega) (by omega)
  have hfind := fun W (hW : Chg NoB w W) => find_any base bR v L r.tx W (hr.no hW) (by omega)
  rw [hB] at hmay
  rw [hh] at hfind
  obtain ⟨am, cm, rfl⟩ := hm0.shape
  obtain ⟨al, cl, rfl⟩ := hl0.shape
  obtain ⟨tx, state, first, last, undo, coord, ms, ls⟩ := r
  unfold rowV at *
  simp only at *
  have hbox := At.new w [.int .i64 tx, .int .i64 state, .int .i64 first, .int .i64 last, .int .i64 undo, .int .i64 coord, .slice am ms.length cm, .slice al ls.length cl] 32
  have hcb := (Chg.refl NoB w).alloc (.cells #[.int .i64 tx, .int .i64 state, .int .i64 first, .int .i64 last, .int .i64 undo, .int .i64 coord, .slice am ms.length cm, .slice al ls.length cl] 32)
  have hmay' := hmay _ hcb
  clear hmay
  go_enter Try.func21, Try.ntmps21
  go_wp2_with (first | (go_at_call 17; refine hmay'.mono ?_; clear hmay'; rintro e w1 ⟨rfl, hc1⟩; have hb1 := hbox.chg hc1 (by simp [NoB]); have x0 := hb1.cell 0 rfl; have hfind' := hfind _ (hcb.trans hc1 (by simp [NoB])); clear hfind) | (go_at_call 35; refine hfind'.mono ?_; clear hfind'; rintro e w2 ⟨rfl, hc2⟩; have hcw := (hcb.trans hc1 (by simp [NoB])).trans hc2 (by simp [NoB])))
  go_ret
  exact ⟨rfl, hcw⟩
theorem rput_end {base bR g cap p : Nat} {L : List X} {w w4 : World} {xo : X} (hhd : At w bR [.slice (some ⟨g, 0, none⟩) L.length cap] 47) (hrow : XRow w base (.slice (some ⟨g, 0, none⟩) L.length cap) L) (hown : ∀ x ∈ L, RHas w 0 x) (hcw4 : Chg NoB w w4) (hxo : L[p]? = some xo) (hne1 : bR ≠ g) (r : Rw) (mv lv : Value) (hR : RHas w4 0 (r, mv, lv)) :
    ∃ y : X, y.1 = r ∧ RAt (setp w4 g (p * 8) (.int .i64 r.tx) (.int .i64 r.state) (.int .i64 r.first) (.int .i64 r.last) (.int .i64 r.undo) (.int .i64 r.coord) mv lv) base bR (.slice (some ⟨g, 0, none⟩) L.length cap) (L.set p y) ∧
      Chg (fun b => (Value.slice (some ⟨g, 0, none⟩) L.length cap).ownBlock = some b) w (setp w4 g (p * 8) (.int .i64 r.tx) (.int .i64 r.state) (.int .i64 r.first) (.int .i64 r.last) (.int .i64 r.undo) (.int .i64 r.coord) mv lv) := by
  have hrow4 := hrow.chg hcw4 (by simp [NoB])
  have hcs := (Chg.refl (fun b => b = g) w4).setp (g := g) (o := p * 8) (fun _ => rfl) (.int .i64 r.tx) (.int .i64 r.state) (.int .i64 r.first) (.int .i64 r.last) (.int .i64 r.undo) (.int .i64 r.coord) mv lv
  have hlen : (L.set p ((r, mv, lv) : X)).length = L.length := List.length_set ..
  refine ⟨(r, mv, lv), rfl, ⟨(hhd.chg hcw4 (by simp [NoB])).chg hcs hne1, XRow.setp hrow4 hxo _ _ _, fun y hy => ?_⟩, (hcw4.mono (T := fun b => (Value.slice (some ⟨g, 0, none⟩) L.length cap).ownBlock = some b) (by simp [NoB])).setp (fun _ => rfl) _ _ _ _ _ _ _ _⟩
  rcases List.mem_or_eq_of_mem_set hy with hy | rfl
  · have hR := (hown y hy).no hcw4
    exact hR.chg hcs (fun b hb e => hR.1.apart hrow4 (by decide) b hb (by rw [e]; rfl)) (fun b hb e => hR.2.apart hrow4 (by decide) b hb (by rw [e]; rfl))
  · exact hR.chg hcs (fun b hb e => hR.1.apart hrow4 (by decide) b hb (by rw [e]; rfl)) (fun b hb e => hR.2.apart hrow4 (by decide) b hb (by rw [e]; rfl))
set_option maxHeartbeats 4000000 in
set_option maxRecDepth 100000 in
theorem rput_ok (base bR : Nat) (v : Value) (L : List X) (r : Rw) (mv lv : Value) (w : World) (hr : RAt w base bR v L) (hm0 : Sees w cellsI mv r.ms) (hl0 : Sees w cellsL lv r.ls) (hl : L.length ≤ 4294967296) (hB : rowB r = true) (hh : thereB (L.map (·.1)) r.tx = true) :
    Calls Try.prog 21 #[.pointer (some ⟨bR, 0, none⟩), rowV r mv lv] w fun e w' => e = .returned (.int .i64 0) ∧ ∃ y, y.1 = r ∧ RAt w' base bR v (L.set (findI (L.map (·.1)) r.tx) y) ∧ Chg (fun b => v.ownBlock = some b) w w' := by
  have hfl := findI_le (L.map (·.1)) r.tx
  rw [List.length_map] at hfl
  obtain ⟨hml, hll, htx, htx2⟩ := rowB_len hB
  have hmay := fun W hW => rmay_any r mv lv W (hm0.no hW) (hl0.no hW) (by omega) (by omega)
  have hfind := fun W (hW : Chg NoB w W) => find_any base bR v L r.tx W (hr.no hW) (by omega)
  rw [hB] at hmay
  rw [hh] at hfind
  obtain ⟨am, cm, rfl⟩ := hm0.shape
  obtain ⟨al, cl, rfl⟩ := hl0.shape
  obtain ⟨tx, state, first, last, undo, coord, ms, ls⟩ := r
  unfold rowV at *
  simp only at *
  have hbox := At.new w [.int .i64 tx, .int .i64 state, .int .i64 first, .int .i64 last, .int .i64 undo, .int .i64 coord, .slice am ms.length cm, .slice al ls.length cl] 32
  have hcb := (Chg.refl NoB w).alloc (.cells #[.int .i64 tx, .int .i64 state, .int .i64 first, .int .i64 last, .int .i64 undo, .int .i64 coord, .slice am ms.length cm, .slice al ls.length cl] 32)
  have hmay' := hmay _ hcb
  clear hmay
  have hp : findI (L.map (·.1)) tx < L.length := by
    refine Nat.lt_of_not_le fun hle => ?_
    unfold thereB at hh
    rw [List.getElem?_eq_none (by rw [List.length_map]; exact hle)] at hh
    cases hh
  obtain ⟨xo, hxo⟩ : ∃ x, L[findI (L.map (·.1)) tx]? = some x := ⟨_, List.getElem?_eq_getElem hp⟩
  generalize findI (L.map (·.1)) tx = p at *
  obtain ⟨i0, hi, hz0, hz1, hz2⟩ := info_parts info32
  have hhd := hr.hd
  have hown := hr.own
  have hrow := hr.row
  obtain ⟨g, cap, rfl, hcap, hgb, hgl⟩ := xrow_some hr.row hp
  have hi1 : (0 : Int) ≤ (p : Int) := by omega
  have hi2 : (p : Int) < (L.length : Int) := by omega
  have hcopy := fun W (hW : Chg NoB w W) => copy_sl (⟨tx, state, first, last, undo, coord, ms, ls⟩ : Rw) _ _ W (hm0.no hW) (hl0.no hW) (by simp only; omega) (by simp only; omega)
  unfold rowV at hcopy
  simp only at hcopy
  have hltR := hhd.lt
  go_enter Try.func21, Try.ntmps21
  go_upto_region 6 with (first | (go_at_call 17; refine hmay'.mono ?_; clear hmay'; rintro e w1 ⟨rfl, hc1⟩; have hb1 := hbox.chg hc1 (by simp [NoB]); have x0 := hb1.cell 0 rfl; have hfind' := hfind _ (hcb.trans hc1 (by simp [NoB])); clear hfind) | (go_at_call 35; refine hfind'.mono ?_; clear hfind'; rintro e w2 ⟨rfl, hc2⟩; have hcw := (hcb.trans hc1 (by simp [NoB])).trans hc2 (by simp [NoB]); clear x0) | fail)
  have hb2 := (hb1.chg hc2 (by simp [NoB])).drew
  have hcwd := hcw.drew
  have hR2 := hr.no hcwd
  have c0 := hR2.hd.cell 0 rfl
  have b0 := hb2.cell 0 rfl; have b1 := hb2.cell 1 rfl; have b2 := hb2.cell 2 rfl; have b3 := hb2.cell 3 rfl; have b4 := hb2.cell 4 rfl; have b5 := hb2.cell 5 rfl; have b6 := hb2.cell 6 rfl; have b7 := hb2.cell 7 rfl
  have hne1 : bR ≠ g := fun e => (hR2.row.apart_at hR2.hd (by decide)) (by rw [e]; rfl)
  have hne2 : w.heap.size ≠ g := by omega
  have hS := And.intro c0 (And.intro b0 (And.intro b1 (And.intro b2 (And.intro b3 (And.intro b4 (And.intro b5 (And.intro b6 b7)))))))
  clear c0 b0 b1 b2 b3 b4 b5 b6 b7
  have hcopy' := hcopy _ hcwd
  clear hcopy
  go_region_held3 (fun W => W.cell? ⟨bR, 0, none⟩ = some (.slice (some ⟨g, 0, none⟩) L.length cap) ∧ W.cell? ⟨w.heap.size, 0, none⟩ = some (.int .i64 tx) ∧ W.cell? ⟨w.heap.size, 1, none⟩ = some (.int .i64 state) ∧ W.cell? ⟨w.heap.size, 2, none⟩ = some (.int .i64 first) ∧ W.cell? ⟨w.heap.size, 3, none⟩ = some (.int .i64 last) ∧ W.cell? ⟨w.heap.size, 4, none⟩ = some (.int .i64 undo) ∧ W.cell? ⟨w.heap.size, 5, none⟩ = some (.int .i64 coord) ∧ W.cell? ⟨w.heap.size, 6, none⟩ = some (.slice am ms.length cm) ∧ W.cell? ⟨w.heap.size, 7, none⟩ = some (.slice al ls.length cl))
    (with_reducible assumption) (first
    | (go_at_call 12; refine hcopy'.mono ?_; clear hcopy'; rintro e w4 ⟨a1, k1, a2, k2, rfl, hR4, hc4⟩; have hcw4 := hcwd.trans hc4 (by simp [NoB]); have hrow4 := hrow.chg hcw4 (by simp [NoB]); obtain ⟨t0, t1, t2, t3, t4, t5, t6, t7⟩ := xrow_cells hrow4 hxo; have f0 := hrow4.frozen (p * 8); have f1 := hrow4.frozen (p * 8 + 1); have f2 := hrow4.frozen (p * 8 + 2); have f3 := hrow4.frozen (p * 8 + 3); have f4 := hrow4.frozen (p * 8 + 4); have f5 := hrow4.frozen (p * 8 + 5); have f6 := hrow4.frozen (p * 8 + 6); have f7 := hrow4.frozen (p * 8 + 7); have hgl4 : g < w4.heap.size := Nat.lt_of_lt_of_le hgl hcw4.size; have hS4 := S9 hS hc4; have hS5 := S9c hS4 ((Chg.refl (fun b => b = g) w4).setp (g := g) (o := p * 8) (fun _ => rfl) (.int .i64 tx) (.int .i64 state) (.int .i64 first) (.int .i64 last) (.int .i64 undo) (.int .i64 coord) (.slice a1 ms.length k1) (.slice a2 ls.length k2)) hne1 hne2 hne2 hne2 hne2 hne2 hne2 hne2 hne2; unfold Go.Proofs.Ytpjmamobiancdaa.setp at hS5))
  go_wp2
  go_ret
  have hend := rput_end hhd hrow hown hcw4 hxo hne1 (⟨tx, state, first, last, undo, coord, ms, ls⟩ : Rw) (.slice a1 ms.length k1) (.slice a2 ls.length k2) (hR4.mono (Nat.zero_le _))
  unfold Go.Proofs.Ytpjmamobiancdaa.setp at hend
  exact ⟨rfl, hend⟩
end Go.Proofs.Ytpjmamobiancdaa
