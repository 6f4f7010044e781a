/- The walk of 'RowsPlays'. Conditions: none. -/
import Derived.Test.YtpjmamobiancdaaPr2
import Derived.Test.YtpjmamobiancdaaOpc
import Derived.Test.YtpjmamobiancdaaAw
import Derived.Test.YtpjmamobiancdaaCh
import Derived.Deep.RegionHeld3
import Derived.Deep.CutRange
import Derived.Deep.CutBlock
namespace Go.Proofs.Ytpjmamobiancdaa
open Go.RowKit Go.Maps Go.BigFrame
set_option maxRecDepth 100000 in
set_option maxHeartbeats 8000000 in
theorem walk_rowsPlays (v : Value) (L : List Cl) (w : World) (hv : Sees w cellsC v L) (hx : ∀ c ∈ L, SeesX w c.2.2 ∧ I64 c.2.1) :
    Calls Try.prog 6 #[v] w fun e w' => e = .returned (.bool true) ∧ Below w.heap.size w w' := by
  obtain ⟨ao, cap, rfl⟩ := hv.shape
  have h9 := fun W => awake_any W
  have hnew := new_any w
  by_cases hlen : L.length ≤ 100
  · have hd0 : decide (100 < (L.length : Int)) = false := by simp; omega
    go_enter Try.func6, Try.ntmps6
    go_wp2_with (first | (go_at_call 10; refine hnew.mono ?_; clear hnew; rintro e w1 ⟨rfl, ht1, hc1⟩) | fail)
    have s1 : w.heap.size + 2 ≤ w1.heap.size := ht1.hd.lt
    have hB0 : Both w (w1.alloc (.cells #[.slice none 0 0] 47)) w.heap.size w1.heap.size [] (.slice none 0 0) [] := ⟨ht1.no ((Chg.refl NoB w1).alloc _), ⟨At.new w1 [.slice none 0 0] 47, RowOf.nil _ _, by simp⟩, Rel.nil, by simp, hc1.alloc _, Nat.le_refl _, by omega⟩
    clear ht1 hc1
    generalize w1.heap.size = bR at *
    generalize hbm : w.heap.size = bm at *
    go_loopw [5] (fun i wr => ∃ (k : Nat) (l : List (Int × X)) (M : List X) (u : Value), i = .int .i64 k ∧ k ≤ L.length ∧ Both w wr bm bR l u M) (fun i _ => L.length - (intOf i).toNat)
    case atStart => exact ⟨0, [], [], _, rfl, Nat.zero_le _, hB0⟩
    case round =>
      obtain ⟨k, l, M, u, rfl, hk, hB⟩ := hrel
      clear hB0
      by_cases hlt' : k < L.length
      · obtain ⟨x, hxk⟩ : ∃ x, L[k]? = some x := ⟨L[k], List.getElem?_eq_getElem hlt'⟩
        have hl1 : ((k : Int) < (L.length : Int)) := by omega
        have hd1 : decide ((k : Int) < (L.length : Int)) = true := by simpa using hl1
        have hi1 : (0 : Int) ≤ (k : Int) := by omega
        have hxL := List.mem_of_getElem? hxk
        have hsx := (hx x hxL).1
        have htx := (hx x hxL).2
        obtain ⟨ad, c', hvv, hcell⟩ := (hv.no hB.chg).at cellsC_len hxk
        cases hvv
        have q0 := hcell 0 _ rfl
        have q1 := hcell 1 _ rfl
        have q2 := hcell 2 _ rfl
        have q3 := hcell 3 _ rfl
        have q4 := hcell 4 _ rfl
        have q5 := hcell 5 _ rfl
        have q6 := hcell 6 _ rfl
        have q7 := hcell 7 _ rfl
        have q8 := hcell 8 _ rfl
        have q9 := hcell 9 _ rfl
        rw [Nat.add_zero] at q0
        rw [addr_field _ _ _ (by omega)] at q1 q2 q3 q4 q5 q6 q7 q8 q9
        clear hcell hxL hxk
        obtain ⟨kind, ctx, ⟨tx, state, first, last, undo, coord, ms, ls⟩, mv, lv⟩ := x
        simp only at q0 q1 q2 q3 q4 q5 q6 q7 q8 q9 htx hsx
        obtain ⟨hm0, hl0, htx2, _⟩ := hsx
        simp only at hm0 hl0 htx2
        obtain ⟨am, cm, rfl⟩ := hm0.shape
        obtain ⟨al, cl, rfl⟩ := hl0.shape
        have hgr := fun W b (hb : At W b (cellsR (⟨tx, state, first, last, undo, coord, ms, ls⟩, .slice am ms.length cm, .slice al ls.length cl)) 32) => great_any _ [((⟨tx, state, first, last, undo, coord, ms, ls⟩, .slice am ms.length cm, .slice al ls.length cl) : X)] W (Sees.of_at hb) (fun x hx => by rw [List.mem_singleton] at hx; subst hx; exact ⟨⟨_, _, rfl⟩, ⟨_, _, rfl⟩⟩)
        rw [greatB_one] at hgr
        have hgn := fun h => greatR_no (x := ((⟨tx, state, first, last, undo, coord, ms, ls⟩, .slice am ms.length cm, .slice al ls.length cl) : X)) h
        generalize greatR ((⟨tx, state, first, last, undo, coord, ms, ls⟩, .slice am ms.length cm, .slice al ls.length cl) : X) = G at hgr hgn
        unfold cellsR at hgr
        simp only [List.length_cons, List.length_nil, Nat.zero_add] at hgr hgn
        have hbox := At.new wr [.int .i64 kind, .int .i64 ctx, .int .i64 tx, .int .i64 state, .int .i64 first, .int .i64 last, .int .i64 undo, .int .i64 coord, .slice am ms.length cm, .slice al ls.length cl] 49
        have hcb := (Chg.refl NoB wr).alloc (.cells #[.int .i64 kind, .int .i64 ctx, .int .i64 tx, .int .i64 state, .int .i64 first, .int .i64 last, .int .i64 undo, .int .i64 coord, .slice am ms.length cm, .slice al ls.length cl] 49)
        have hbox2 := At.new (wr.alloc (.cells #[.int .i64 kind, .int .i64 ctx, .int .i64 tx, .int .i64 state, .int .i64 first, .int .i64 last, .int .i64 undo, .int .i64 coord, .slice am ms.length cm, .slice al ls.length cl] 49)) [.int .i64 tx, .int .i64 state, .int .i64 first, .int .i64 last, .int .i64 undo, .int .i64 coord, .slice am ms.length cm, .slice al ls.length cl] 32
        have hcb1 := (Chg.refl NoB (wr.alloc (.cells #[.int .i64 kind, .int .i64 ctx, .int .i64 tx, .int .i64 state, .int .i64 first, .int .i64 last, .int .i64 undo, .int .i64 coord, .slice am ms.length cm, .slice al ls.length cl] 49))).alloc (.cells #[.int .i64 tx, .int .i64 state, .int .i64 first, .int .i64 last, .int .i64 undo, .int .i64 coord, .slice am ms.length cm, .slice al ls.length cl] 32)
        rw [World.size_alloc] at hbox2
        have hgr' := hgr _ _ hbox2
        clear hgr hbox2
        have hhd := hB.r.hd.lt
        generalize hP : ad.add (k * 10) = P at q0 q1 q2 q3 q4 q5 q6 q7 q8 q9
        cases G with
        | true =>
          go_wp2_with (first | (go_at_call 8; refine hgr'.mono ?_; clear hgr'; rintro e w2 ⟨rfl, hc2⟩) | (go_at_call 9; refine (h9 _).mono ?_; clear h9; rintro e W8 ⟨rfl, hc8⟩))
          go_ret
          exact ⟨rfl, ((((hB.chg.trans hcb (by simp [NoB])).trans hcb1 (by simp [NoB])).trans hc2 (by simp [NoB])).trans hc8 (by simp [NoB])).below (by omega) (fun k h => h.elim)⟩
        | false =>
          obtain ⟨hml, hll⟩ := hgn rfl
          clear hgn
          go_upto_region 11 with (first | (go_at_call 8; refine hgr'.mono ?_; clear hgr'; rintro e w2 ⟨rfl, hc2⟩; have hb2 := hbox.chg (hcb1.trans hc2 (by simp [NoB])) (by simp [NoB])) | fail)
          have hB2 := hB.no ((hcb.trans hcb1 (by simp [NoB])).trans hc2 (by simp [NoB]))
          have hl2 := hb2.lt
          have z0 := hb2.cell 0 rfl
          have z1 := hb2.cell 1 rfl
          have hBd := hB2.no (Chg.refl NoB w2).drew
          have hbd := hb2.drew
          generalize wr.heap.size = b at *
          clear q0 q1 q2 q3 q4 q5 q6 q7 q8 q9 hcb hcb1 hbox hc2 hhd
          go_upto_block 2 with fail
          go_cut [7, 8, 9, 10, 11] from 19 to 122 (fun s7 _ _ _ _ wc => s7 = .bool true ∧ ∃ (l : List (Int × X)) (M : List X) (u : Value), Both w wc bm bR l u M)
          case first =>
            by_cases hk0 : kind = 0
            · have hz0 : (kind == 0) = true := by simpa using hk0
              clear hk0
              have ht := fun W (hW : TAt W (bm + 1) bm l) mv lv (h1 : Sees W cellsI mv ms) (h2 : Sees W cellsL lv ls) => t_add (bm + 1) bm l (M.map (·.1)) (⟨tx, state, first, last, undo, coord, ms, ls⟩ : Rw) mv lv W hW hB2.rel h1 h2 (by simp only; omega) (by simp only; omega)
              have hr := fun W (hW : RAt W bR bR u M) (hc : bR ≤ W.heap.size) (h1 : Sees W cellsI (.slice am ms.length cm) ms) (h2 : Sees W cellsL (.slice al ls.length cl) ls) => r_add bR bR u M (⟨tx, state, first, last, undo, coord, ms, ls⟩ : Rw) _ _ W hW hc hB2.low.2 h1 h2 (by simp only; omega) (by simp only; omega)
              have hcopy := copy_sl (⟨tx, state, first, last, undo, coord, ms, ls⟩ : Rw) _ _ w2.drew (hm0.no hBd.chg) (hl0.no hBd.chg) (by simp only; omega) (by simp only; omega)
              have hlen' := addM_len (M.map (·.1)) (⟨tx, state, first, last, undo, coord, ms, ls⟩ : Rw) (by rw [List.length_map]; exact hB2.len)
              unfold rowV at ht hr hcopy
              simp only at ht hr hcopy
              generalize addC (M.map (·.1)) (⟨tx, state, first, last, undo, coord, ms, ls⟩ : Rw) = cc at ht hr
              generalize addM (M.map (·.1)) (⟨tx, state, first, last, undo, coord, ms, ls⟩ : Rw) = MM at ht hr hlen'
              have hS := At.eight hbd
              go_upto_region 14 with fail
              go_region_held3 (fun W => W.cell? ⟨b, 2, none⟩ = some (.int .i64 tx) ∧ W.cell? ⟨b, 3, none⟩ = some (.int .i64 state) ∧ W.cell? ⟨b, 4, none⟩ = some (.int .i64 first) ∧ W.cell? ⟨b, 5, none⟩ = some (.int .i64 last) ∧ W.cell? ⟨b, 6, none⟩ = some (.int .i64 undo) ∧ W.cell? ⟨b, 7, none⟩ = some (.int .i64 coord) ∧ W.cell? ⟨b, 8, none⟩ = some (.slice am ms.length cm) ∧ W.cell? ⟨b, 9, none⟩ = some (.slice al ls.length cl))
                (with_reducible first | assumption) (first
                | (go_at_call 12; refine hcopy.mono ?_; clear hcopy; rintro e w3 ⟨a1, k1, a2, k2, rfl, hR3, hc3⟩; have hb3 := hbd.chg hc3 (by simp [NoB]); have hB3 := hBd.no hc3; have hS3 := At.eight hb3; have ht' := ht _ hB3.t _ _ hR3.sees.1 hR3.sees.2; clear ht)
                | (go_at_call 11; refine ht'.mono ?_; clear ht'; rintro e w4 ⟨l', rfl, ht4, hrel4, hc4⟩; have hb4 := hb3.chg hc4 (hB3.box hb3).1; have hS4 := At.eight hb4; have hr4 := hB3.mid hc4; have hr' := hr _ hr4 (Nat.le_of_lt hr4.hd.lt) (hm0.no (hB3.chg3 hc4)) (hl0.no (hB3.chg3 hc4)); clear hr)
                | (go_at_call 20; refine hr'.mono ?_; clear hr'; rintro e w5 ⟨v', L', rfl, hr5, hL', hc5⟩; have hb5 := hb4.chg hc5 (hB3.box hb3).2; have hS5 := At.eight hb5))
              go_wp2_with fail
              go_meet
              case rel => exact ⟨by simp, l', L', v', hB3.two ht4 hc4 hr5 hc5 (by rw [hL']; exact hrel4) (by rw [← hL', List.length_map] at hlen'; exact hlen')⟩
            · have hz0 : (kind == 0) = false := by simpa using hk0
              clear hk0
              by_cases hk1 : kind = 1
              · have hz1 : (kind == 1) = true := by simpa using hk1
                clear hk1
                have ht := fun W (hW : TAt W (bm + 1) bm l) mv lv (h1 : Sees W cellsI mv ms) (h2 : Sees W cellsL lv ls) => t_put (bm + 1) bm l (M.map (·.1)) (⟨tx, state, first, last, undo, coord, ms, ls⟩ : Rw) mv lv W hW hB2.rel h1 h2 (by simp only; omega) (by simp only; omega)
                have hr := fun W (hW : RAt W bR bR u M) (hc : bR ≤ W.heap.size) (h1 : Sees W cellsI (.slice am ms.length cm) ms) (h2 : Sees W cellsL (.slice al ls.length cl) ls) => r_put bR bR u M (⟨tx, state, first, last, undo, coord, ms, ls⟩ : Rw) _ _ W hW hB2.low.2 h1 h2 (by simp only; omega) (by simp only; omega)
                have hcopy := copy_sl (⟨tx, state, first, last, undo, coord, ms, ls⟩ : Rw) _ _ w2.drew (hm0.no hBd.chg) (hl0.no hBd.chg) (by simp only; omega) (by simp only; omega)
                have hlen' := Nat.le_trans (Nat.le_of_eq (putM_len (M.map (·.1)) (⟨tx, state, first, last, undo, coord, ms, ls⟩ : Rw))) (by rw [List.length_map]; exact hB2.len)
                unfold rowV at ht hr hcopy
                simp only at ht hr hcopy
                generalize putC (M.map (·.1)) (⟨tx, state, first, last, undo, coord, ms, ls⟩ : Rw) = cc at ht hr
                generalize putM (M.map (·.1)) (⟨tx, state, first, last, undo, coord, ms, ls⟩ : Rw) = MM at ht hr hlen'
                have hS := At.eight hbd
                go_upto_region 16 with fail
                go_region_held3 (fun W => W.cell? ⟨b, 2, none⟩ = some (.int .i64 tx) ∧ W.cell? ⟨b, 3, none⟩ = some (.int .i64 state) ∧ W.cell? ⟨b, 4, none⟩ = some (.int .i64 first) ∧ W.cell? ⟨b, 5, none⟩ = some (.int .i64 last) ∧ W.cell? ⟨b, 6, none⟩ = some (.int .i64 undo) ∧ W.cell? ⟨b, 7, none⟩ = some (.int .i64 coord) ∧ W.cell? ⟨b, 8, none⟩ = some (.slice am ms.length cm) ∧ W.cell? ⟨b, 9, none⟩ = some (.slice al ls.length cl))
                  (with_reducible first | assumption) (first
                  | (go_at_call 12; refine hcopy.mono ?_; clear hcopy; rintro e w3 ⟨a1, k1, a2, k2, rfl, hR3, hc3⟩; have hb3 := hbd.chg hc3 (by simp [NoB]); have hB3 := hBd.no hc3; have hS3 := At.eight hb3; have ht' := ht _ hB3.t _ _ hR3.sees.1 hR3.sees.2; clear ht)
                  | (go_at_call 16; refine ht'.mono ?_; clear ht'; rintro e w4 ⟨l', rfl, ht4, hrel4, hc4⟩; have hb4 := hb3.chg hc4 (hB3.box hb3).1; have hS4 := At.eight hb4; have hr4 := hB3.mid hc4; have hr' := hr _ hr4 (Nat.le_of_lt hr4.hd.lt) (hm0.no (hB3.chg3 hc4)) (hl0.no (hB3.chg3 hc4)); clear hr)
                  | (go_at_call 21; refine hr'.mono ?_; clear hr'; rintro e w5 ⟨v', L', rfl, hr5, hL', hc5⟩; have hb5 := hb4.chg hc5 (hB3.box hb3).2; have hS5 := At.eight hb5))
                go_wp2_with fail
                go_meet
                case rel => exact ⟨by simp, l', L', v', hB3.two ht4 hc4 hr5 hc5 (by rw [hL']; exact hrel4) (by rw [← hL', List.length_map] at hlen'; exact hlen')⟩
              · have hz1 : (kind == 1) = false := by simpa using hk1
                clear hk1
                by_cases hk2 : kind = 2
                · have hz2 : (kind == 2) = true := by simpa using hk2
                  clear hk2
                  cases hth : thereB (M.map (·.1)) ctx with
                  | true =>
                    obtain ⟨r, hrr⟩ : ∃ r, (M.map (·.1))[findI (M.map (·.1)) ctx]? = some r := ⟨_, hB2.rel.look_there hth⟩
                    have hget := get_sl hB2 htx hth hrr
                    have hrget := fun W (hW : Chg NoB w2 W) => rget_sl (hB2.r.no hW) hB2.low.2 hth hrr
                    have hrl := (List.mem_map.1 (List.mem_of_getElem? hrr))
                    obtain ⟨y, hy, hyr⟩ := hrl
                    have hlens := ref_lens hB2 y hy
                    rw [hyr] at hlens
                    clear hyr hy hrr hth hbd hBd
                    have hsm := fun W mv lv mw lw hm0 hl0 hm1 hl1 => sameRow_yes (W := W) r mv lv mw lw hm0 hl0 hm1 hl1 hlens.1 hlens.2
                    obtain ⟨r1, r2, r3, r4, r5, r6, rm, rl⟩ := r
                    unfold rowV at hget hrget hsm
                    simp only at hget hrget hsm
                    go_wp2_with (first
                      | (go_at_call 18; refine hget.mono ?_; clear hget; rintro e w3 ⟨a3, k3, e3, f3, rfl, hR3, hc3⟩; have hb3 := hb2.chg hc3 (by simp [NoB]); have y1 := hb3.cell 1 rfl; have hl3 := hb3.lt; have hrget' := hrget _ (hc3.alloc (.cells #[.int .i64 r1, .int .i64 r2, .int .i64 r3, .int .i64 r4, .int .i64 r5, .int .i64 r6, .slice a3 rm.length k3, .slice e3 rl.length f3] 32)); clear hrget)
                      | (go_at_call 22; refine hrget'.mono ?_; clear hrget'; rintro e w4 ⟨a4, k4, e4, f4, rfl, hR4, hc4⟩; have h8 := (At.new w3 [.int .i64 r1, .int .i64 r2, .int .i64 r3, .int .i64 r4, .int .i64 r5, .int .i64 r6, .slice a3 rm.length k3, .slice e3 rl.length f3] 32).chg hc4 (by simp [NoB]); have hl8 := h8.lt; have g0 := h8.cell 0 rfl; have g1 := h8.cell 1 rfl; have g2 := h8.cell 2 rfl; have g3 := h8.cell 3 rfl; have g4 := h8.cell 4 rfl; have g5 := h8.cell 5 rfl; have g6 := h8.cell 6 rfl; have g7 := h8.cell 7 rfl; have hc34 := ((hc3.alloc (.cells #[.int .i64 r1, .int .i64 r2, .int .i64 r3, .int .i64 r4, .int .i64 r5, .int .i64 r6, .slice a3 rm.length k3, .slice e3 rl.length f3] 32)).trans hc4 (by simp [NoB])).alloc (.cells #[.int .i64 r1, .int .i64 r2, .int .i64 r3, .int .i64 r4, .int .i64 r5, .int .i64 r6, .slice a4 rm.length k4, .slice e4 rl.length f4] 32); have hR35 := ((hR3.no ((Chg.refl NoB w3).alloc (.cells #[.int .i64 r1, .int .i64 r2, .int .i64 r3, .int .i64 r4, .int .i64 r5, .int .i64 r6, .slice a3 rm.length k3, .slice e3 rl.length f3] 32))).no hc4).no ((Chg.refl NoB w4).alloc (.cells #[.int .i64 r1, .int .i64 r2, .int .i64 r3, .int .i64 r4, .int .i64 r5, .int .i64 r6, .slice a4 rm.length k4, .slice e4 rl.length f4] 32)); have hR45 := hR4.no ((Chg.refl NoB w4).alloc (.cells #[.int .i64 r1, .int .i64 r2, .int .i64 r3, .int .i64 r4, .int .i64 r5, .int .i64 r6, .slice a4 rm.length k4, .slice e4 rl.length f4] 32)); have hsm' := hsm _ _ _ _ _ hR35.sees.1 hR35.sees.2 hR45.sees.1 hR45.sees.2; clear hsm)
                      | (go_at_call 19; refine hsm'.mono ?_; clear hsm'; rintro e w5 ⟨rfl, hc5⟩)
                      | fail)
                    go_meet
                    case rel => exact ⟨rfl, l, M, u, (hB2.no hc34).no hc5⟩
                  | false =>
                    have hget := get_no (bm + 1) bm l ctx w2 hB2.t htx (by rw [hB2.rel.has]; exact hth)
                    have hrget := fun W (hW : Chg NoB w2 W) => rget_no bR bR u M ctx W (hB2.r.no hW) hB2.low.2 hth
                    have hsm := fun W => sameRow_yes (W := W) zeroR (.slice none 0 0) (.slice none 0 0) (.slice none 0 0) (.slice none 0 0) (Sees.nil W) (Sees.nil W) (Sees.nil W) (Sees.nil W) (by simp [zeroR]) (by simp [zeroR])
                    clear hth hbd hBd
                    unfold valR rowV zeroX zeroR at hget hrget
                    unfold rowV zeroR at hsm
                    simp only at hget hrget hsm
                    go_wp2_with (first
                      | (go_at_call 18; refine hget.mono ?_; clear hget; rintro e w3 ⟨rfl, hc3⟩; have hb3 := hb2.chg hc3 (by simp [NoB]); have y1 := hb3.cell 1 rfl; have hl3 := hb3.lt; have hrget' := hrget _ (hc3.alloc (.cells #[.int .i64 0, .int .i64 0, .int .i64 0, .int .i64 0, .int .i64 0, .int .i64 0, .slice none 0 0, .slice none 0 0] 32)); clear hrget)
                      | (go_at_call 22; refine hrget'.mono ?_; clear hrget'; rintro e w4 ⟨rfl, hc4⟩; have h8 := (At.new w3 [.int .i64 0, .int .i64 0, .int .i64 0, .int .i64 0, .int .i64 0, .int .i64 0, .slice none 0 0, .slice none 0 0] 32).chg hc4 (by simp [NoB]); have hl8 := h8.lt; have g0 := h8.cell 0 rfl; have g1 := h8.cell 1 rfl; have g2 := h8.cell 2 rfl; have g3 := h8.cell 3 rfl; have g4 := h8.cell 4 rfl; have g5 := h8.cell 5 rfl; have g6 := h8.cell 6 rfl; have g7 := h8.cell 7 rfl; have hc34 := ((hc3.alloc (.cells #[.int .i64 0, .int .i64 0, .int .i64 0, .int .i64 0, .int .i64 0, .int .i64 0, .slice none 0 0, .slice none 0 0] 32)).trans hc4 (by simp [NoB])).alloc (.cells #[.int .i64 0, .int .i64 0, .int .i64 0, .int .i64 0, .int .i64 0, .int .i64 0, .slice none 0 0, .slice none 0 0] 32); have hsm' := hsm (w4.alloc (.cells #[.int .i64 0, .int .i64 0, .int .i64 0, .int .i64 0, .int .i64 0, .int .i64 0, .slice none 0 0, .slice none 0 0] 32)); clear hsm)
                      | (go_at_call 19; refine hsm'.mono ?_; clear hsm'; rintro e w5 ⟨rfl, hc5⟩)
                      | fail)
                    go_meet
                    case rel => exact ⟨rfl, l, M, u, (hB2.no hc34).no hc5⟩
                · have hz2 : (kind == 2) = false := by simpa using hk2
                  clear hk2
                  by_cases hk3 : kind = 3
                  · have hz3 : (kind == 3) = true := by simpa using hk3
                    clear hk3
                    have ht := t_drop (bm + 1) bm l (M.map (·.1)) ctx w2.drew hBd.t hB2.rel htx
                    have hr := fun W (hW : RAt W bR bR u M) (hc : bR ≤ W.heap.size) => r_drop bR bR u M ctx W hW hc hB2.low.2
                    have hlen' := Nat.le_trans (dropM_len (M.map (·.1)) ctx) (by rw [List.length_map]; exact hB2.len)
                    generalize thereB (M.map (·.1)) ctx = cc at ht hr
                    generalize dropM (M.map (·.1)) ctx = MM at ht hr hlen'
                    have hS := hbd.cell 1 rfl
                    go_upto_region 22 with fail
                    go_region_held3 (fun W => W.cell? ⟨b, 1, none⟩ = some (.int .i64 ctx))
                      (with_reducible first | assumption) (first
                      | (go_at_call 23; refine ht.mono ?_; clear ht; rintro e w4 ⟨l', rfl, ht4, hrel4, hc4⟩; have hb4 := hbd.chg hc4 (hBd.box hbd).1; have hS4 := hb4.cell 1 rfl; have hr4 := hBd.mid hc4; have hr' := hr _ hr4 (Nat.le_of_lt hr4.hd.lt); clear hr)
                      | (go_at_call 24; refine hr'.mono ?_; clear hr'; rintro e w5 ⟨v', L', rfl, hr5, hL', hc5⟩; have hb5 := hb4.chg hc5 (hBd.box hbd).2; have hS5 := hb5.cell 1 rfl))
                    go_wp2_with fail
                    go_meet
                    case rel => exact ⟨by simp, l', L', v', hBd.two ht4 hc4 hr5 hc5 (by rw [hL']; exact hrel4) (by rw [← hL', List.length_map] at hlen'; exact hlen')⟩
                  · have hz3 : (kind == 3) = false := by simpa using hk3
                    clear hk3
                    have hll' : l.length ≤ 64 := by have h1 := hB2.rel.len; have h2 := hB2.len; rw [List.length_map] at h1; omega
                    have ht := in_any (bm + 1) bm l ctx w2.drew hBd.t (by omega)
                    rw [hB2.all] at ht
                    have hr := fun W (hW : Chg NoB w2.drew W) => rin_any bR bR u M ctx W (hBd.r.no hW) hB2.low.2
                    have hil := inOf_len ctx (M.map (·.1))
                    rw [List.length_map] at hil
                    have hMl := hB2.len
                    generalize inOf ctx (M.map (·.1)) = N at ht hr hil
                    have hS := hbd.cell 1 rfl
                    go_upto_region 12 with fail
                    go_region_held3 (fun W => W.cell? ⟨b, 1, none⟩ = some (.int .i64 ctx))
                      (with_reducible first | assumption) (first
                      | (go_at_call 26; refine ht.mono ?_; clear ht; rintro e w3 ⟨va, rfl, hir3, hc3⟩; have hS3 := hc3.cell hS (by simp [NoB]); have hr' := hr _ hc3; clear hr)
                      | (go_at_call 27; refine hr'.mono ?_; clear hr'; rintro e w4 ⟨vb, rfl, hir4, hc4⟩; have hS4 := hc4.cell hS3 (by simp [NoB]); have hsi := sameInts_any va vb N N w4 (Sees.of_row (hir3.chg hc4 (by simp [NoB]))) (Sees.of_row hir4) (by omega) (by omega); rw [decide_eq_true rfl] at hsi)
                      | (go_at_call 25; refine hsi.mono ?_; clear hsi; rintro e w5 ⟨rfl, hc5⟩; have hS5 := hc5.cell hS4 (by simp [NoB])))
                    go_wp2_with fail
                    go_meet
                    case rel => exact ⟨rfl, l, M, u, hBd.no ((hc3.trans hc4 (by simp [NoB])).trans hc5 (by simp [NoB]))⟩
          case rest =>
            clear hB2 hBd hb2 hbd hl2 z0 z1 hm0 hl0 htx htx2 hml hll
            obtain ⟨rfl, l', M', u', hB5⟩ := hcut
            have hBd := hB5.no (Chg.refl NoB wc).drew
            have c0 := hBd.r.hd.cell 0 rfl
            have hll' : l'.length ≤ 64 := by have h1 := hBd.rel.len; have h2 := hBd.len; rw [List.length_map] at h1; omega
            have hall := all_any (bm + 1) bm l' wc.drew hBd.t (by omega)
            rw [hBd.all] at hall
            have hls := fun W (hW : Chg NoB wc.drew W) => least_any (bm + 1) bm l' W (hBd.t.no hW)
            rw [hBd.least] at hls
            have hrl := fun W (hW : Chg NoB wc.drew W) => rleast_any bR bR u' M' W (hBd.r.no hW) hBd.low.2
            generalize lsOf (M'.map (·.1)) = N at hls hrl
            go_upto_region 23 with fail
            go_region_held3 (fun W => W.cell? ⟨bR, 0, none⟩ = some u')
              (with_reducible first | assumption) (first
              | (go_at_call 13; refine hall.mono ?_; clear hall; rintro e w3 ⟨va, A, rfl, hrA, hxA, hA, hc3⟩; have hS3 := hc3.cell c0 (by simp [NoB]); have hsm := same_yes hBd hc3 hrA (fun x hx => (hxA x hx).mono (Nat.zero_le _)) hA)
              | (go_at_call 14; refine hsm.mono ?_; clear hsm; rintro e w4 ⟨rfl, hc4⟩; have hS4 := hc4.cell hS3 (by simp [NoB]); have hls' := hls _ (hc3.trans hc4 (by simp [NoB])); clear hls)
              | (go_at_call 15; refine hls'.mono ?_; clear hls'; rintro e w5 ⟨rfl, hc5⟩; have hS5 := hc5.cell hS4 (by simp [NoB]); have hrl' := hrl _ ((hc3.trans hc4 (by simp [NoB])).trans hc5 (by simp [NoB])); clear hrl)
              | (go_at_call 28; refine hrl'.mono ?_; clear hrl'; rintro e w6 ⟨rfl, hc6⟩; have hS6 := hc6.cell hS5 (by simp [NoB])))
            go_wp2_with fail
            exact ⟨⟨k + 1, l', M', u', by go_num, by omega, hBd.no (((hc3.trans hc4 (by simp [NoB])).trans hc5 (by simp [NoB])).trans hc6 (by simp [NoB]))⟩, by simp [intOf]; omega⟩
      · obtain rfl : k = L.length := by omega
        have hd1 : decide ((L.length : Int) < (L.length : Int)) = false := by simp
        go_wp2_with (first | (go_at_call 9; refine (h9 _).mono ?_; clear h9; rintro e W8 ⟨rfl, hc8⟩) | fail)
        go_ret
        exact ⟨rfl, (hB.chg.trans hc8 (by simp [NoB])).below (by omega) (fun k h => h.elim)⟩
  · have hd0 : decide (100 < (L.length : Int)) = true := by simp; omega
    go_enter Try.func6, Try.ntmps6
    go_wp2_with (first | (go_at_call 9; refine (h9 _).mono ?_; clear h9; rintro e W8 ⟨rfl, hc8⟩) | fail)
    go_ret
    exact ⟨rfl, hc8.below (Nat.le_refl _) (fun k h => h.elim)⟩
end Go.Proofs.Ytpjmamobiancdaa
