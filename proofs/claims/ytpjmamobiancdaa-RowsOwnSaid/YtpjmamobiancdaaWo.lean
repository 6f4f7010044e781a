/- The walk of 'RowsOwn'. Conditions: none. -/
import Derived.Test.YtpjmamobiancdaaCh
import Derived.Test.YtpjmamobiancdaaAw
import Derived.Test.YtpjmamobiancdaaSr
namespace Go.Proofs.Ytpjmamobiancdaa
open Go.RowKit Go.Maps Go.BigFrame
set_option maxRecDepth 100000 in
set_option maxHeartbeats 8000000 in
theorem walk_rowsOwn (r : Rw) (mv lv : Value) (w : World) (hm0 : Sees w cellsI mv r.ms) (hl0 : Sees w cellsL lv r.ls) :
    Calls Try.prog 5 #[rowV r mv lv] w fun e w' => e = .returned (.bool true) ∧ Below w.heap.size w w' := by
  obtain ⟨am, cm, rfl⟩ := hm0.shape
  obtain ⟨al, cl, rfl⟩ := hl0.shape
  have hgr := fun W b (hb : At W b (cellsR (r, .slice am r.ms.length cm, .slice al r.ls.length cl)) 32) => great_any _ [((r, .slice am r.ms.length cm, .slice al r.ls.length cl) : X)] W (Sees.of_at hb) (fun x hx => by rw [List.mem_singleton] at hx; subst hx; exact ⟨⟨_, _, rfl⟩, ⟨_, _, rfl⟩⟩)
  rw [greatB_one] at hgr
  have hgn := fun h => greatR_no (x := ((r, .slice am r.ms.length cm, .slice al r.ls.length cl) : X)) h
  generalize greatR ((r, .slice am r.ms.length cm, .slice al r.ls.length cl) : X) = G at hgr hgn
  have h8 := fun W => awake_any W
  obtain ⟨tx, state, first, last, undo, coord, ms, ls⟩ := r
  unfold rowV
  unfold cellsR at hgr
  simp only [List.length_cons, List.length_nil, Nat.zero_add] at *
  have hbox := At.new w [.int .i64 tx, .int .i64 state, .int .i64 first, .int .i64 last, .int .i64 undo, .int .i64 coord, .slice am ms.length cm, .slice al ls.length cl] 32
  have hcb := (Chg.refl NoB w).alloc (.cells #[.int .i64 tx, .int .i64 state, .int .i64 first, .int .i64 last, .int .i64 undo, .int .i64 coord, .slice am ms.length cm, .slice al ls.length cl] 32)
  have hbox2 := At.new (w.alloc (.cells #[.int .i64 tx, .int .i64 state, .int .i64 first, .int .i64 last, .int .i64 undo, .int .i64 coord, .slice am ms.length cm, .slice al ls.length cl] 32)) [.int .i64 tx, .int .i64 state, .int .i64 first, .int .i64 last, .int .i64 undo, .int .i64 coord, .slice am ms.length cm, .slice al ls.length cl] 32
  have hcb2 := hcb.alloc (.cells #[.int .i64 tx, .int .i64 state, .int .i64 first, .int .i64 last, .int .i64 undo, .int .i64 coord, .slice am ms.length cm, .slice al ls.length cl] 32)
  rw [World.size_alloc] at hbox2
  have hgr' := hgr _ _ hbox2
  clear hgr hbox2
  cases G with
  | true =>
    go_enter Try.func5, Try.ntmps5
    go_wp2_with (first | (go_at_call 8; refine hgr'.mono ?_; clear hgr'; rintro e w2 ⟨rfl, hc2⟩) | (go_at_call 9; refine (h8 _).mono ?_; clear h8; rintro e W8 ⟨rfl, hc8⟩))
    go_ret
    exact ⟨rfl, ((hcb2.trans hc2 (by simp [NoB])).trans hc8 (by simp [NoB])).below (Nat.le_refl _) (fun k h => h.elim)⟩
  | false =>
    obtain ⟨hml, hll⟩ := hgn rfl
    clear hgn
    have hnew := fun W => new_any W
    have hcopy := fun W (hW : Chg NoB w W) => copy_sl (⟨tx, state, first, last, undo, coord, ms, ls⟩ : Rw) _ _ W (hm0.no hW) (hl0.no hW) (by simp only; omega) (by simp only; omega)
    have hmayr := fun W (hW : Chg NoB w W) => rmay_any (⟨tx, state, first, last, undo, coord, ms, ls⟩ : Rw) _ _ W (hm0.no hW) (hl0.no hW) (by simp only; omega) (by simp only; omega)
    unfold rowV at hcopy hmayr
    try simp only at hcopy hmayr
    cases hB : rowB (⟨tx, state, first, last, undo, coord, ms, ls⟩ : Rw) with
    | false =>
      rw [hB] at hmayr
      go_enter Try.func5, Try.ntmps5
      go_wp2_with (first
        | (go_at_call 8; refine hgr'.mono ?_; clear hgr'; rintro e w2 ⟨rfl, hc2⟩; have hcw2 := hcb2.trans hc2 (by simp [NoB]))
        | (go_at_call 10; refine (hnew _).mono ?_; clear hnew; rintro e w3 ⟨rfl, ht3, hc3⟩; have hcw3 := hcw2.trans hc3 (by simp [NoB]); have hb3 := hbox.chg (((Chg.refl NoB (w.alloc (.cells #[.int .i64 tx, .int .i64 state, .int .i64 first, .int .i64 last, .int .i64 undo, .int .i64 coord, .slice am ms.length cm, .slice al ls.length cl] 32))).alloc (.cells #[.int .i64 tx, .int .i64 state, .int .i64 first, .int .i64 last, .int .i64 undo, .int .i64 coord, .slice am ms.length cm, .slice al ls.length cl] 32)).trans (hc2.trans hc3 (by simp [NoB])) (by simp [NoB])) (by simp [NoB]); have hl3 := hb3.lt; have x0 := hb3.cell 0 rfl; have x1 := hb3.cell 1 rfl; have x2 := hb3.cell 2 rfl; have x3 := hb3.cell 3 rfl; have x4 := hb3.cell 4 rfl; have x5 := hb3.cell 5 rfl; have x6 := hb3.cell 6 rfl; have x7 := hb3.cell 7 rfl; have hcopy' := hcopy _ hcw3; clear hcopy)
        | (go_at_call 12; refine hcopy'.mono ?_; clear hcopy'; rintro e w4 ⟨a1, k1, a2, k2, rfl, hR4, hc4⟩; clear x0 x1 x2 x3 x4 x5 x6 x7; have hx5 := At.new w4 [.int .i64 tx, .int .i64 state, .int .i64 first, .int .i64 last, .int .i64 undo, .int .i64 coord, .slice a1 ms.length k1, .slice a2 ls.length k2] 32; have hc45 := (Chg.refl NoB w4).alloc (.cells #[.int .i64 tx, .int .i64 state, .int .i64 first, .int .i64 last, .int .i64 undo, .int .i64 coord, .slice a1 ms.length k1, .slice a2 ls.length k2] 32); have ht5 := (ht3.no hc4).no hc45; have hR5 := hR4.no hc45; have hb5 := (hb3.chg hc4 (by simp [NoB])).chg hc45 (by simp [NoB]); have hcw5 := (hcw3.trans hc4 (by simp [NoB])).alloc (.cells #[.int .i64 tx, .int .i64 state, .int .i64 first, .int .i64 last, .int .i64 undo, .int .i64 coord, .slice a1 ms.length k1, .slice a2 ls.length k2] 32); have hl5 := hb5.lt; have hadd := add_bad (w2.heap.size + 1) (⟨tx, state, first, last, undo, coord, ms, ls⟩ : Rw) _ _ _ hR5.sees.1 hR5.sees.2 (by simp only; omega) (by simp only; omega) hB; unfold rowV at hadd; simp only at hadd)
        | (go_at_call 11; refine hadd.mono ?_; clear hadd; rintro e w6 ⟨rfl, hc6⟩; have hb6 := hb5.chg hc6 (by simp [NoB]); have hcw6 := hcw5.trans hc6 (by simp [NoB]); have hl6 := hb6.lt; have y0 := hb6.cell 0 rfl; have y1 := hb6.cell 1 rfl; have y2 := hb6.cell 2 rfl; have y3 := hb6.cell 3 rfl; have y4 := hb6.cell 4 rfl; have y5 := hb6.cell 5 rfl; have y6 := hb6.cell 6 rfl; have y7 := hb6.cell 7 rfl; have hmr' := hmayr _ hcw6; clear hmayr)
        | (go_at_call 17; refine hmr'.mono ?_; clear hmr'; rintro e w7 ⟨rfl, hc7⟩)
        | (go_at_call 9; refine (h8 _).mono ?_; clear h8; rintro e W8 ⟨rfl, hc8⟩)
        | fail)
      go_ret
      exact ⟨rfl, ((hcw6.trans hc7 (by simp [NoB])).trans hc8 (by simp [NoB])).below (Nat.le_refl _) (fun k h => h.elim)⟩
    | true =>
      clear hmayr
      go_enter Try.func5, Try.ntmps5
      go_wp2_with (first
        | (go_at_call 8; refine hgr'.mono ?_; clear hgr'; rintro e w2 ⟨rfl, hc2⟩; have hcw2 := hcb2.trans hc2 (by simp [NoB]))
        | (go_at_call 10; refine (hnew _).mono ?_; clear hnew; rintro e w3 ⟨rfl, ht3, hc3⟩; have hcw3 := hcw2.trans hc3 (by simp [NoB]); have hb3 := hbox.chg (((Chg.refl NoB (w.alloc (.cells #[.int .i64 tx, .int .i64 state, .int .i64 first, .int .i64 last, .int .i64 undo, .int .i64 coord, .slice am ms.length cm, .slice al ls.length cl] 32))).alloc (.cells #[.int .i64 tx, .int .i64 state, .int .i64 first, .int .i64 last, .int .i64 undo, .int .i64 coord, .slice am ms.length cm, .slice al ls.length cl] 32)).trans (hc2.trans hc3 (by simp [NoB])) (by simp [NoB])) (by simp [NoB]); have hl3 := hb3.lt; have x0 := hb3.cell 0 rfl; have x1 := hb3.cell 1 rfl; have x2 := hb3.cell 2 rfl; have x3 := hb3.cell 3 rfl; have x4 := hb3.cell 4 rfl; have x5 := hb3.cell 5 rfl; have x6 := hb3.cell 6 rfl; have x7 := hb3.cell 7 rfl; have hcopy' := hcopy _ hcw3; clear hcopy)
        | (go_at_call 12; refine hcopy'.mono ?_; clear hcopy'; rintro e w4 ⟨a1, k1, a2, k2, rfl, hR4, hc4⟩; clear x0 x1 x2 x3 x4 x5 x6 x7; have hx5 := At.new w4 [.int .i64 tx, .int .i64 state, .int .i64 first, .int .i64 last, .int .i64 undo, .int .i64 coord, .slice a1 ms.length k1, .slice a2 ls.length k2] 32; have hc45 := (Chg.refl NoB w4).alloc (.cells #[.int .i64 tx, .int .i64 state, .int .i64 first, .int .i64 last, .int .i64 undo, .int .i64 coord, .slice a1 ms.length k1, .slice a2 ls.length k2] 32); have ht5 := (ht3.no hc4).no hc45; have hR5 := hR4.no hc45; have hb5 := (hb3.chg hc4 (by simp [NoB])).chg hc45 (by simp [NoB]); have hcw5 := (hcw3.trans hc4 (by simp [NoB])).alloc (.cells #[.int .i64 tx, .int .i64 state, .int .i64 first, .int .i64 last, .int .i64 undo, .int .i64 coord, .slice a1 ms.length k1, .slice a2 ls.length k2] 32); have hl5 := hb5.lt; have hadd := add_ok' (w2.heap.size + 1) w2.heap.size [] (⟨tx, state, first, last, undo, coord, ms, ls⟩ : Rw) _ _ _ ht5 hR5.sees.1 hR5.sees.2 hB (by simp [hasX, mget]) (by simp); unfold rowV at hadd; simp only at hadd)
        | (go_at_call 11; refine hadd.mono ?_; clear hadd; rintro e w6 ⟨rfl, m1, v1, ht6, hc6, hR6⟩)
        | fail)
      have s2 : w.heap.size + 2 ≤ w2.heap.size := Nat.le_trans (by simp) hc2.size
      have s3 : w2.heap.size + 2 ≤ w3.heap.size := ht3.hd.lt
      have s4 := hc4.size
      have hn1 : ∀ g, (Value.slice a1 ms.length k1).ownBlock = some g → g < w4.heap.size := fun g hg => (hR4.1.ge g hg).2
      have hx6 := hx5.chg hc6 (by omega)
      have hb6 := hb5.chg hc6 (by omega)
      have hcw6 := hcw5.trans hc6 (fun j h1 h2 => by omega)
      have hR56 := hR5.chg_map ht5.mp hc6
      have hir0 := hR56.1
      simp only at hir0
      have hgo := fun W h => get_own (w2.heap.size + 1) w2.heap.size (⟨tx, state, first, last, undo, coord, ms, ls⟩ : Rw) m1 v1 W h hB
      unfold rowV at hgo
      simp only at hgo ht6
      clear hx5 hb5 hcw5 hR5 hR56 ht5 hc45 hR4 ht3 hbox hl3 hl5 hB
      go_loopw [6] (fun i wr => ∃ (k : Nat) (zs : List Int), i = .int .i64 k ∧ k ≤ ms.length ∧ IRow wr w3.heap.size (.slice a1 ms.length k1) zs ∧ TAt wr (w2.heap.size + 1) w2.heap.size (mput [] tx ((⟨tx, state, first, last, undo, coord, ms, ls⟩ : Rw), m1, v1)) ∧ RHas wr (w4.heap.size + 1) ((⟨tx, state, first, last, undo, coord, ms, ls⟩ : Rw), m1, v1) ∧ At wr w4.heap.size [.int .i64 tx, .int .i64 state, .int .i64 first, .int .i64 last, .int .i64 undo, .int .i64 coord, .slice a1 ms.length k1, .slice a2 ls.length k2] 32 ∧ At wr w.heap.size [.int .i64 tx, .int .i64 state, .int .i64 first, .int .i64 last, .int .i64 undo, .int .i64 coord, .slice am ms.length cm, .slice al ls.length cl] 32 ∧ Chg NoB w wr) (fun i _ => ms.length - (intOf i).toNat)
      case atStart => exact ⟨0, ms, rfl, Nat.zero_le _, hir0, ht6, by simpa using hR6, hx6, hb6, hcw6⟩
      case round =>
        obtain ⟨k, zs, rfl, hk, hir, ht, hR, hx, hb, hcw⟩ := hrel
        have c6 := hx.cell 6 rfl
        by_cases hlt' : k < ms.length
        · obtain ⟨hzl, g, rfl, hg1, hg2⟩ := irow_at hir hlt'
          have hl1 : ((k : Int) < (ms.length : Int)) := by omega
          have hd1 : decide ((k : Int) < (ms.length : Int)) = true := by simpa using hl1
          have hi1 : (0 : Int) ≤ (k : Int) := by omega
          obtain ⟨z, hz⟩ : ∃ z, zs[k]? = some z := ⟨zs[k]'(by omega), List.getElem?_eq_getElem _⟩
          have q0 := hir.cell0 cellsI_len hz rfl
          rw [Nat.mul_one] at q0
          have f0 := hir.frozen k
          have hgw := hn1 g rfl
          have hset := hir.setCell cellsI_len (i := 0) (a' := 99) (u := .int .i64 99) hz (by omega) rfl
          rw [Nat.mul_one, Nat.add_zero] at hset
          have hcS := (Chg.refl (fun b => b = g) wr).setCell (p := ⟨g, k, none⟩) (fun _ => rfl) (.int .i64 99)
          have hgx := hir.apart_at hx (by decide)
          have ht' := ht.apart hcS (by omega) (by omega) (B := w4.heap.size + 1) (fun p hp => by
            simp only [mput, List.map_nil, List.not_mem_nil, if_false, List.nil_append, List.mem_singleton] at hp
            subst hp
            exact hR) (fun h e => by omega)
          have hR' := hR.chg hcS (fun h hh e => by have := (hR.1.ge h hh).1; omega) (fun h hh e => by have := (hR.2.ge h hh).1; omega)
          have hx' := hx.chg hcS (fun e => hgx (by simp [Value.ownBlock, e]))
          have hb' := hb.chg hcS (by omega)
          have hcw' := hcw.trans hcS (fun j h1 h2 => by omega)
          clear hn1 ht hR hx hb hcw
          go_wp2
          exact ⟨⟨k + 1, _, by go_num, by omega, hset, ht', hR', hx', hb', hcw'⟩, by simp [intOf]; omega⟩
        · obtain rfl : k = ms.length := by omega
          have hd1 : decide ((ms.length : Int) < (ms.length : Int)) = false := by simp
          have b0 := hb.cell 0 rfl
          generalize wr = wG at *
          have hgo1 := hgo _ ht
          go_wp2_with (first | (go_at_call 18; refine hgo1.mono ?_; clear hgo1; rintro e w7 ⟨a3, k3, a4, k4, rfl, hR7, hc7⟩) | fail)
          have hy8 := At.new w7 [.int .i64 tx, .int .i64 state, .int .i64 first, .int .i64 last, .int .i64 undo, .int .i64 coord, .slice a3 ms.length k3, .slice a4 ls.length k4] 32
          have hc8 := hc7.alloc (.cells #[.int .i64 tx, .int .i64 state, .int .i64 first, .int .i64 last, .int .i64 undo, .int .i64 coord, .slice a3 ms.length k3, .slice a4 ls.length k4] 32)
          have hR8 := hR7.no ((Chg.refl NoB w7).alloc (.cells #[.int .i64 tx, .int .i64 state, .int .i64 first, .int .i64 last, .int .i64 undo, .int .i64 coord, .slice a3 ms.length k3, .slice a4 ls.length k4] 32))
          have hirY := hR8.1
          have hlrY := hR8.2
          simp only at hirY hlrY
          clear c6 hlt' hk hir hR hx hR7 hR8
          go_loopw [9] (fun i ws => ∃ (k : Nat) (zl : List Lk), i = .int .i64 k ∧ k ≤ ls.length ∧ LRow ws wG.heap.size (.slice a4 ls.length k4) zl ∧ IRow ws wG.heap.size (.slice a3 ms.length k3) ms ∧ At ws w7.heap.size [.int .i64 tx, .int .i64 state, .int .i64 first, .int .i64 last, .int .i64 undo, .int .i64 coord, .slice a3 ms.length k3, .slice a4 ls.length k4] 32 ∧ Chg NoB wG ws) (fun i _ => ls.length - (intOf i).toNat)
          case atStart => exact ⟨0, ls, rfl, Nat.zero_le _, hlrY, hirY, hy8, hc8⟩
          case round =>
            obtain ⟨k, zl, rfl, hk, hlr, hir, hy, hcs⟩ := hrel
            have c7 := hy.cell 7 rfl
            have hyl := hy.lt
            have s7 : wG.heap.size ≤ w7.heap.size := hc7.size
            by_cases hlt' : k < ls.length
            · obtain ⟨hzl, g, rfl, hg1, hg2⟩ := lrow_at hlr hlt'
              have hl1 : ((k : Int) < (ls.length : Int)) := by omega
              have hd1 : decide ((k : Int) < (ls.length : Int)) = true := by simpa using hl1
              have hi1 : (0 : Int) ≤ (k : Int) := by omega
              obtain ⟨z, hz⟩ : ∃ z, zl[k]? = some z := ⟨zl[k]'(by omega), List.getElem?_eq_getElem _⟩
              have q0 := hlr.cell0 cellsL_len hz rfl
              have f0 := hlr.frozen (k * 2)
              have hset := hlr.setCell cellsL_len (i := 0) (a' := (⟨#[63]⟩, z.2)) (u := .string ⟨#[63]⟩) hz (by omega) rfl
              rw [Nat.add_zero] at hset
              have hcS := (Chg.refl (fun b => b = g) wr).setCell (p := ⟨g, k * 2, none⟩) (fun _ => rfl) (.string ⟨#[63]⟩)
              have hgx := hlr.apart_at hy (by decide)
              have hgi := hir.apart hlr (by decide)
              have hir' := hir.chg hcS (fun h hh e => hgi h hh (by rw [e]; rfl))
              have hy' := hy.chg hcS (fun e => hgx (by simp [Value.ownBlock, e]))
              have hcs' := hcs.trans hcS (fun j h1 h2 => by omega)
              clear hir hy hcs hgo ht hb hcw hc7 hc8 hy8 hirY hlrY hn1 hgi
              go_wp2
              exact ⟨⟨k + 1, _, by go_num, by omega, hset, hir', hy', hcs'⟩, by simp [intOf]; omega⟩
            · obtain rfl : k = ls.length := by omega
              have hd1 : decide ((ls.length : Int) < (ls.length : Int)) = false := by simp
              clear hlr hlt' hk
              go_wp2
              generalize wr = wH at *
              go_loopw [10] (fun i wq => ∃ (k : Nat) (zs : List Int), i = .int .i64 k ∧ k ≤ ms.length ∧ IRow wq wG.heap.size (.slice a3 ms.length k3) zs ∧ At wq w7.heap.size [.int .i64 tx, .int .i64 state, .int .i64 first, .int .i64 last, .int .i64 undo, .int .i64 coord, .slice a3 ms.length k3, .slice a4 ls.length k4] 32 ∧ Chg NoB wG wq) (fun i _ => ms.length - (intOf i).toNat)
              case atStart => exact ⟨0, ms, rfl, Nat.zero_le _, hir, hy, hcs⟩
              case round =>
                obtain ⟨k, zs, rfl, hk, hirq, hyq, hcq⟩ := hrel
                have c6 := hyq.cell 6 rfl
                by_cases hlt' : k < ms.length
                · obtain ⟨hzl, g, rfl, hg1, hg2⟩ := irow_at hirq hlt'
                  have hl1 : ((k : Int) < (ms.length : Int)) := by omega
                  have hd1 : decide ((k : Int) < (ms.length : Int)) = true := by simpa using hl1
                  have hi1 : (0 : Int) ≤ (k : Int) := by omega
                  obtain ⟨z, hz⟩ : ∃ z, zs[k]? = some z := ⟨zs[k]'(by omega), List.getElem?_eq_getElem _⟩
                  have q0 := hirq.cell0 cellsI_len hz rfl
                  rw [Nat.mul_one] at q0
                  have f0 := hirq.frozen k
                  have hset := hirq.setCell cellsI_len (i := 0) (a' := 98) (u := .int .i64 98) hz (by omega) rfl
                  rw [Nat.mul_one, Nat.add_zero] at hset
                  have hcS := (Chg.refl (fun b => b = g) wr).setCell (p := ⟨g, k, none⟩) (fun _ => rfl) (.int .i64 98)
                  have hgx := hirq.apart_at hyq (by decide)
                  have hy' := hyq.chg hcS (fun e => hgx (by simp [Value.ownBlock, e]))
                  have hcs' := hcq.trans hcS (fun j h1 h2 => by omega)
                  clear hyq hcq hgo ht hb hcw hc7 hc8 hy8 hirY hlrY hn1 hir hy hcs
                  go_wp2
                  exact ⟨⟨k + 1, _, by go_num, by omega, hset, hy', hcs'⟩, by simp [intOf]; omega⟩
                · obtain rfl : k = ms.length := by omega
                  have hd1 : decide ((ms.length : Int) < (ms.length : Int)) = false := by simp
                  have hbq := hb.chg hcq (by simp [NoB])
                  have b0 := hbq.cell 0 rfl
                  have hgo2 := hgo _ (ht.no hcq)
                  have hcwq := hcw.trans hcq (by simp [NoB])
                  have hbl := hbq.lt
                  have hsm := fun W (hW : Chg NoB w W) a b c d (hR : RHas W 0 ((⟨tx, state, first, last, undo, coord, ms, ls⟩ : Rw), .slice a ms.length b, .slice c ls.length d)) => sameRow_any (⟨tx, state, first, last, undo, coord, ms, ls⟩ : Rw) (⟨tx, state, first, last, undo, coord, ms, ls⟩ : Rw) _ _ _ _ W hR.sees.1 hR.sees.2 (hm0.no hW) (hl0.no hW) (by simp only; omega) (by simp only; omega) (by simp only; omega) (by simp only; omega)
                  rw [(sameB_iff (⟨tx, state, first, last, undo, coord, ms, ls⟩ : Rw) (⟨tx, state, first, last, undo, coord, ms, ls⟩ : Rw)).2 rfl] at hsm
                  unfold rowV at hsm
                  simp only at hsm
                  clear hgo hirq hyq hlt' hk
                  go_wp2_with (first
                    | (go_at_call 18; refine hgo2.mono ?_; clear hgo2; rintro e w9 ⟨a5, k5, a6, k6, rfl, hR9, hc9⟩; have hb9 := (hbq.chg hc9 (by simp [NoB])).chg ((Chg.refl NoB w9).alloc (.cells #[.int .i64 tx, .int .i64 state, .int .i64 first, .int .i64 last, .int .i64 undo, .int .i64 coord, .slice a5 ms.length k5, .slice a6 ls.length k6] 32)) (by simp [NoB]); have hbl9 := (hbq.chg hc9 (by simp [NoB])).lt; have z0 := (hbq.chg hc9 (by simp [NoB])).cell 0 rfl; have z1 := (hbq.chg hc9 (by simp [NoB])).cell 1 rfl; have z2 := (hbq.chg hc9 (by simp [NoB])).cell 2 rfl; have z3 := (hbq.chg hc9 (by simp [NoB])).cell 3 rfl; have z4 := (hbq.chg hc9 (by simp [NoB])).cell 4 rfl; have z5 := (hbq.chg hc9 (by simp [NoB])).cell 5 rfl; have z6 := (hbq.chg hc9 (by simp [NoB])).cell 6 rfl; have z7 := (hbq.chg hc9 (by simp [NoB])).cell 7 rfl; have hcw9 := (hcwq.trans hc9 (by simp [NoB])).alloc (.cells #[.int .i64 tx, .int .i64 state, .int .i64 first, .int .i64 last, .int .i64 undo, .int .i64 coord, .slice a5 ms.length k5, .slice a6 ls.length k6] 32); have hsm' := hsm _ hcw9 a5 k5 a6 k6 ((hR9.mono (Nat.zero_le _)).no ((Chg.refl NoB w9).alloc (.cells #[.int .i64 tx, .int .i64 state, .int .i64 first, .int .i64 last, .int .i64 undo, .int .i64 coord, .slice a5 ms.length k5, .slice a6 ls.length k6] 32))))
                    | (go_at_call 19; refine hsm'.mono ?_; clear hsm'; rintro e w10 ⟨rfl, hc10⟩)
                    | (go_at_call 9; refine (h8 _).mono ?_; clear h8; rintro e W8 ⟨rfl, hc8'⟩)
                    | fail)
                  go_ret
                  exact ⟨rfl, ((hcw9.trans hc10 (by simp [NoB])).trans hc8' (by simp [NoB])).below (Nat.le_refl _) (fun k h => h.elim)⟩
end Go.Proofs.Ytpjmamobiancdaa
