/- The reference's table of rows: Get, Drop and In. Conditions: at most 2^32 rows. -/
import Derived.Test.YtpjmamobiancdaaRa
import Derived.Test.YtpjmamobiancdaaIn
namespace Go.Proofs.Ytpjmamobiancdaa
open Go.RowKit Go.Maps Go.BigFrame
set_option maxHeartbeats 2000000 in
theorem rget_no (base bR : Nat) (v : Value) (L : List X) (n : Int) (w : World) (hr : RAt w base bR v L) (hl : L.length ≤ 4294967296) (hh : thereB (L.map (·.1)) n = false) :
    Calls Try.prog 22 #[.pointer (some ⟨bR, 0, none⟩), .int .i64 n] w fun e w' => e = .returned (.tuple #[valR zeroX, .int .i64 160]) ∧ Chg NoB w w' := by
  have hcb := (Chg.refl NoB w).alloc (.cells #[.int .i64 0, .int .i64 0, .int .i64 0, .int .i64 0, .int .i64 0, .int .i64 0, .slice none 0 0, .slice none 0 0] 32)
  have hfind := find_any base bR v L n _ (hr.no hcb) (by omega)
  rw [hh] at hfind
  have hres := At.new w [.int .i64 0, .int .i64 0, .int .i64 0, .int .i64 0, .int .i64 0, .int .i64 0, .slice none 0 0, .slice none 0 0] 32
  unfold valR rowV zeroX zeroR
  simp only
  go_enter Try.func22, Try.ntmps22
  go_wp2_with (go_at_call 35; refine hfind.mono ?_; clear hfind; rintro e w2 ⟨rfl, hc2⟩; have hr2 := hres.chg hc2 (by simp [NoB]); have q0 := hr2.cell 0 rfl; have q1 := hr2.cell 1 rfl; have q2 := hr2.cell 2 rfl; have q3 := hr2.cell 3 rfl; have q4 := hr2.cell 4 rfl; have q5 := hr2.cell 5 rfl; have q6 := hr2.cell 6 rfl; have q7 := hr2.cell 7 rfl; have f0 := hr2.frozen 0; have f1 := hr2.frozen 1; have f2 := hr2.frozen 2; have f3 := hr2.frozen 3; have f4 := hr2.frozen 4; have f5 := hr2.frozen 5; have f6 := hr2.frozen 6; have f7 := hr2.frozen 7; have hl2 := hr2.lt)
  refine bodyPost_ret (v := .tuple #[.agg #[.int .i64 0, .int .i64 0, .int .i64 0, .int .i64 0, .int .i64 0, .int .i64 0, .slice none 0 0, .slice none 0 0], .int .i64 160]) ?_ rfl ⟨rfl, ?_⟩
  · simp [results, Try.results22, go_sem, q0, q1, q2, q3, q4, q5, q6, q7]
  · exact (hcb.trans hc2 (by simp [NoB])).set8 (fun h => absurd h (Nat.lt_irrefl _)) _ _ _ _ _ _ _ _
set_option maxHeartbeats 2000000 in
theorem rget_any (base bR : Nat) (v : Value) (L : List X) (n : Int) (w : World) (hr : RAt w base bR v L) (hl : L.length ≤ 4294967296) (hh : thereB (L.map (·.1)) n = true) :
    Calls Try.prog 22 #[.pointer (some ⟨bR, 0, none⟩), .int .i64 n] w fun e w' => ∃ x am cm al cl, x ∈ L ∧ (L.map (·.1))[findI (L.map (·.1)) n]? = some x.1 ∧ x.2.1 = .slice am x.1.ms.length cm ∧ x.2.2 = .slice al x.1.ls.length cl ∧
      e = .returned (.tuple #[rowV x.1 (.slice am x.1.ms.length cm) (.slice al x.1.ls.length cl), .int .i64 0]) ∧ Chg NoB w w' := by
  have hcb := (Chg.refl NoB w).alloc (.cells #[.int .i64 0, .int .i64 0, .int .i64 0, .int .i64 0, .int .i64 0, .int .i64 0, .slice none 0 0, .slice none 0 0] 32)
  have hfind := find_any base bR v L n _ (hr.no hcb) (by omega)
  rw [hh] at hfind
  have hres := At.new w [.int .i64 0, .int .i64 0, .int .i64 0, .int .i64 0, .int .i64 0, .int .i64 0, .slice none 0 0, .slice none 0 0] 32
  obtain ⟨x, hx⟩ : ∃ x, L[findI (L.map (·.1)) n]? = some x := by
    unfold thereB at hh
    rw [List.getElem?_map] at hh
    cases h : L[findI (L.map (·.1)) n]? with
    | none => rw [h] at hh; cases hh
    | some x => exact ⟨x, rfl⟩
  have hxm : (L.map (·.1))[findI (L.map (·.1)) n]? = some x.1 := by rw [List.getElem?_map, hx]; rfl
  have hxL := List.mem_of_getElem? hx
  have hR := hr.own x hxL
  generalize findI (L.map (·.1)) n = p at *
  have hp := (List.getElem?_eq_some_iff.1 hx).1
  obtain ⟨g, cap, rfl, _, _, hgl⟩ := xrow_some hr.row hp
  have hi1 : (0 : Int) ≤ (p : Int) := by omega
  have hi2 : (p : Int) < (L.length : Int) := by omega
  obtain ⟨am, cm, al, cl, e1, e2⟩ := hR.shapes
  refine Calls.mono (R := fun e w' => e = .returned (.tuple #[rowV x.1 (.slice am x.1.ms.length cm) (.slice al x.1.ls.length cl), .int .i64 0]) ∧ Chg NoB w w') ?_ (fun e w' ⟨h1, h2⟩ => ⟨x, am, cm, al, cl, hxL, hxm, e1, e2, h1, h2⟩)
  obtain ⟨⟨tx, state, first, last, undo, coord, ms, ls⟩, mv, lv⟩ := x
  simp only at e1 e2
  subst e1
  subst e2
  unfold rowV
  simp only
  clear hh hxm hxL hR
  go_enter Try.func22, Try.ntmps22
  go_wp2_with (go_at_call 35; refine hfind.mono ?_; clear hfind; rintro e w2 ⟨rfl, hc2⟩; have hcw := hcb.trans hc2 (by simp [NoB]); have hrw := hr.no hcw; have c0 := hrw.hd.cell 0 rfl; obtain ⟨z0, z1, z2, z3, z4, z5, z6, z7⟩ := xrow_cells hrw.row hx; have hr2 := hres.chg hc2 (by simp [NoB]); have q0 := hr2.cell 0 rfl; have q1 := hr2.cell 1 rfl; have q2 := hr2.cell 2 rfl; have q3 := hr2.cell 3 rfl; have q4 := hr2.cell 4 rfl; have q5 := hr2.cell 5 rfl; have q6 := hr2.cell 6 rfl; have q7 := hr2.cell 7 rfl; have f0 := hr2.frozen 0; have f1 := hr2.frozen 1; have f2 := hr2.frozen 2; have f3 := hr2.frozen 3; have f4 := hr2.frozen 4; have f5 := hr2.frozen 5; have f6 := hr2.frozen 6; have f7 := hr2.frozen 7; have hl2 := hr2.lt)
  refine bodyPost_ret (v := .tuple #[.agg #[.int .i64 tx, .int .i64 state, .int .i64 first, .int .i64 last, .int .i64 undo, .int .i64 coord, .slice am ms.length cm, .slice al ls.length cl], .int .i64 0]) ?_ rfl ⟨rfl, ?_⟩
  · simp [results, Try.results22, go_sem, q0, q1, q2, q3, q4, q5, q6, q7]
  · exact hcw.set8 (fun h => absurd h (Nat.lt_irrefl _)) _ _ _ _ _ _ _ _
set_option maxHeartbeats 2000000 in
theorem rdrop_no (base bR : Nat) (v : Value) (L : List X) (n : Int) (w : World) (hr : RAt w base bR v L) (hl : L.length ≤ 4294967296) (hh : thereB (L.map (·.1)) n = false) :
    Calls Try.prog 24 #[.pointer (some ⟨bR, 0, none⟩), .int .i64 n] w fun e w' => e = .returned (.bool false) ∧ Chg NoB w w' := by
  have hfind := find_any base bR v L n w hr (by omega)
  rw [hh] at hfind
  go_enter Try.func24, Try.ntmps24
  go_wp2_with (go_at_call 35; refine hfind.mono ?_; clear hfind; rintro e w2 ⟨rfl, hc2⟩)
  go_ret
  exact ⟨rfl, hc2⟩
set_option maxHeartbeats 4000000 in
set_option maxRecDepth 100000 in
theorem rdrop_any (base bR : Nat) (v : Value) (L : List X) (n : Int) (w : World) (hr : RAt w base bR v L) (hb0 : base ≤ w.heap.size) (hl : L.length ≤ 4294967296) (hh : thereB (L.map (·.1)) n = true) :
    Calls Try.prog 24 #[.pointer (some ⟨bR, 0, none⟩), .int .i64 n] w fun e w' => e = .returned (.bool true) ∧ ∃ v', RAt w' base bR v' (L.take (findI (L.map (·.1)) n) ++ L.drop (findI (L.map (·.1)) n + 1)) ∧ Chg (· = bR) w w' := by
  have hfind := find_any base bR v L n w hr (by omega)
  rw [hh] at hfind
  have hp : findI (L.map (·.1)) n < L.length := by
    refine Nat.lt_of_not_le fun hle => ?_
    unfold thereB at hh
    rw [List.getElem?_eq_none (by rw [List.length_map]; exact hle)] at hh
    cases hh
  generalize findI (L.map (·.1)) n = p at *
  obtain ⟨i0, hi, hz0, hz1, hz2⟩ := info_parts info32
  have hhd := hr.hd
  have hown := hr.own
  have hrow := hr.row
  obtain ⟨g, cap, rfl, hcap, _, hgl⟩ := xrow_some hr.row hp
  have hp1 : (0 : Int) ≤ (p : Int) := by omega
  have hp2 : (p : Int) ≤ (cap : Int) := by omega
  have hp3 : (p : Int) + 1 ≤ (L.length : Int) := by omega
  have hp4 : (p : Int) ≤ (L.length : Int) := by omega
  have hp5 : (L.length : Int) ≤ (cap : Int) := by omega
  have hfl : p ≤ L.length := by omega
  have hltR := hhd.lt
  clear hh
  go_enter Try.func24, Try.ntmps24
  go_wp2_with (first | (go_at_call 35; refine hfind.mono ?_; clear hfind; rintro e w2 ⟨rfl, hcw⟩; have c0 := (hr.no hcw).hd.cell 0 rfl; have hrow2 := hrow.chg hcw (by simp [NoB])) | (at_builtin; refine stop ?_))
  unfold Stop
  have hsz := hcw.size
  refine wpList_app' (RowOf.nil _ w.heap.size) (hrow2.take p hfl) cellsR_len (fun y hy => (hown y (List.mem_of_mem_take hy)).one) (by omega) 22 i0 _ 96 Try.underlying22 hi hz0 hz1 hz2 rfl rfl _ _ rfl rfl rfl (by simp [maxLen]; omega) (by simp; omega) hsz ?_
  intro v2 w3 hr2 hg2 _
  rw [List.nil_append] at hr2
  have hcw3 : Chg NoB w w3 := hcw.grown hg2 (by simp [Value.ownBlock])
  have hsz3 := hcw3.size
  have c3 := (hr.no hcw3).hd.cell 0 rfl
  have hrow3 := hrow.chg hcw3 (by simp [NoB])
  have hlp : (L.take p).length = p := by simp; omega
  obtain ⟨ao2, n2, cap2, rfl⟩ := hr2.slice
  clear c0 hrow2
  go_wp2_with (at_builtin; refine stop ?_)
  all_goals
    unfold Stop
    refine wpList_app' hr2 (l2 := L.drop (p + 1)) (by first | exact hrow3.drop_at cellsR_len (p + 1) _ (by omega) | exact SrcOf.left (by omega)) cellsR_len (fun y hy => (hown y (List.mem_of_mem_drop hy)).one) (by omega) 22 i0 _ 96 Try.underlying22 hi hz0 hz1 hz2 rfl rfl _ _ rfl rfl rfl (by rw [hlp]; simp [maxLen]; omega) (by rw [hlp]; omega) hsz3 ?_
    intro v4 w6 hr4 hg4 _
    have hcw6 : Chg NoB w w6 := hcw3.grown hg4 (fun g hg hlt => absurd (hr2.ge g hg).1 (by omega))
    have hd6 := hhd.chg hcw6 (by simp [NoB])
    have c6 := hd6.cell 0 rfl
    have f6 := hd6.frozen 0
    obtain ⟨ao4, n4, cap4, rfl⟩ := hr4.slice
    have hcS := (Chg.refl (· = bR) w6).setCell (p := ⟨bR, 0, none⟩) (fun _ => rfl) (.slice ao4 n4 cap4)
    clear c3 hrow3
    go_wp2_with fail
    go_ret
    refine ⟨rfl, _, ⟨hd6.setCell 0 _, (hr4.mono hb0).chg hcS (fun g hg e => by have := (hr4.ge g hg).1; omega), fun y hy => ?_⟩, (hcw6.mono (T := (· = bR)) (by simp [NoB])).setCell (p := ⟨bR, 0, none⟩) (fun _ => rfl) _⟩
    rcases List.mem_append.1 hy with hy | hy
    · exact ((hown y (List.mem_of_mem_take hy)).no hcw6).chg_at hd6 (by decide) (by decide) hcS
    · exact ((hown y (List.mem_of_mem_drop hy)).no hcw6).chg_at hd6 (by decide) (by decide) hcS
set_option maxHeartbeats 2000000 in
theorem rin_any (base bR : Nat) (v : Value) (L : List X) (s : Int) (w : World) (hr : RAt w base bR v L) (hl : L.length ≤ 4294967296) :
    Calls Try.prog 27 #[.pointer (some ⟨bR, 0, none⟩), .int .i64 s] w fun e w' => ∃ v', e = .returned v' ∧ IRow w' w.heap.size v' (inOf s (L.map (·.1))) ∧ Chg NoB w w' := by
  obtain ⟨i0, hi, hz0, hz1, hz2⟩ := info_parts info3
  obtain ⟨ao, cap, rfl, _⟩ := hr.row.shape
  have hnl : (L.map (·.1)).length = L.length := List.length_map ..
  have hget : ∀ (k : Nat) x, L[k]? = some x → (L.map (·.1))[k]? = some x.1 := fun k x h => by rw [List.getElem?_map, h]; rfl
  generalize L.map (·.1) = m at *
  have hlt := hr.hd.lt
  go_enter Try.func27, Try.ntmps27
  go_wp2
  go_loopw [5, 6] (fun v i wr => ∃ k : Nat, i = .int .i64 k ∧ k ≤ L.length ∧ IRow wr w.heap.size v (inOf s (m.take k)) ∧ Chg NoB w wr) (fun _ i _ => L.length - (intOf i).toNat)
  case atStart => exact ⟨0, rfl, Nat.zero_le _, RowOf.nil _ _, Chg.refl _ _⟩
  case round =>
    obtain ⟨k, rfl, hk, hir, hcr⟩ := hrel
    have hrw := hr.no hcr
    have c0 := hrw.hd.cell 0 rfl
    by_cases hlt' : k < L.length
    · obtain ⟨x, hx⟩ : ∃ x, L[k]? = some x := ⟨L[k], List.getElem?_eq_getElem hlt'⟩
      have hmx := hget k x hx
      have hsn := inOf_snoc s (m.take k) x.1
      have htk : m.take k ++ [x.1] = m.take (k + 1) := by rw [List.take_add_one, hmx]; rfl
      rw [htk] at hsn
      have hil := inOf_len s (m.take k)
      rw [List.length_take] at hil
      obtain ⟨g, cap', hv, _, _, hgl⟩ := xrow_some hrw.row hlt'
      cases hv
      have hq := xrow_cells hrw.row hx
      have q0 := hq.1
      have q1 := hq.2.1
      obtain ⟨oa, oc, rfl, _⟩ := hir.shape
      have hl1 : ((k : Int) < (L.length : Int)) := by omega
      have hd1 : decide ((k : Int) < (L.length : Int)) = true := by simpa using hl1
      have hi1 : (0 : Int) ≤ (k : Int) := by omega
      generalize x.1.tx = tx at *
      generalize x.1.state = state at *
      clear hq htk hmx hx hnl hget hr hrw
      by_cases hst : state = s
      · have hb : (state == s) = true := by simpa using hst
        rw [hb, if_pos rfl] at hsn
        have HS := Lib.hid hsn
        clear hst hsn
        go_wp2_with (at_builtin; refine stop ?_)
        unfold Stop
        refine wpList_app (hir.alloc _) (SrcOf.one (a := tx) (At.newAt rfl)) cellsI_len cellsI_one (by omega) 29 i0 _ 8 Try.underlying29 hi hz0 hz1 hz2 rfl rfl _ _ rfl rfl rfl ?_ ?_ ?_ ?_
        · simp [maxLen]; omega
        · omega
        · have := hcr.size; simp; omega
        · intro v3 w3 hr3 hg3 _
          go_wp2
          exact ⟨⟨k + 1, by go_num, by omega, by rw [HS.out]; exact hr3, (hcr.alloc _).grown hg3 (by intro k hk hk2; have := (hir.ge k hk).1; omega)⟩, by simp [intOf]; omega⟩
      · have hb : (state == s) = false := by simpa using hst
        rw [hb, if_neg (by simp), List.append_nil] at hsn
        have HS := Lib.hid hsn
        clear hsn hst
        go_wp2
        exact ⟨⟨k + 1, by go_num, by omega, by rw [HS.out]; exact hir, hcr⟩, by simp [intOf]; omega⟩
    · obtain rfl : k = L.length := by omega
      have hd1 : decide ((L.length : Int) < (L.length : Int)) = false := by simp
      rw [← hnl, List.take_length] at hir
      clear hget
      obtain ⟨oa, oc, rfl, _⟩ := hir.shape
      go_wp2
      go_ret
      exact ⟨_, rfl, hir, hcr⟩
end Go.Proofs.Ytpjmamobiancdaa
