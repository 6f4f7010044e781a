/- The reference's table of rows: what Add does. Conditions: at most 2^40 rows. -/
import Derived.Test.YtpjmamobiancdaaFi
namespace Go.Proofs.Ytpjmamobiancdaa
open Go.RowKit Go.Maps Go.BigFrame
theorem RHas.grown {w w' : World} {base b : Nat} {x : X} {v : Value} {l : List X} (h : RHas w base x) (hr : XRow w b v l) (g : w.grownBy w' v.ownBlock) : RHas w' base x :=
  ⟨h.1.grown g (fun k hk e => h.1.apart hr (by decide) k hk e), h.2.grown g (fun k hk e => h.2.apart hr (by decide) k hk e)⟩
theorem RHas.alloc {w : World} {base : Nat} {x : X} (h : RHas w base x) (o : Obj) : RHas (w.alloc o) base x := ⟨h.1.alloc o, h.2.alloc o⟩
theorem radd_bad (bR : Nat) (r : Rw) (mv lv : Value) (w : World) (hm0 : Sees w cellsI mv r.ms) (hl0 : Sees w cellsL lv r.ls) (hml : r.ms.length ≤ 1099511627776) (hll : r.ls.length ≤ 1099511627776) (hB : rowB r = false) :
    Calls Try.prog 20 #[.pointer (some ⟨bR, 0, none⟩), rowV r mv lv] w fun e w' => e = .returned (.int .i64 1) ∧ Chg NoB w w' := by
  have hmay := fun W hW => rmay_any r mv lv W (hm0.no hW) (hl0.no hW) hml hll
  rw [hB] at hmay
  have hm' := hmay _ ((Chg.refl NoB w).alloc (.cells #[.int .i64 r.tx, .int .i64 r.state, .int .i64 r.first, .int .i64 r.last, .int .i64 r.undo, .int .i64 r.coord, mv, lv] 32))
  clear hmay hm0 hl0 hml hll hB
  unfold rowV at *
  go_enter Try.func20, Try.ntmps20
  go_wp2_with (go_at_call 17; refine hm'.mono ?_; clear hm'; rintro e w2 ⟨rfl, hc2⟩)
  go_ret
  exact ⟨rfl, ((Chg.refl _ w).alloc _).trans hc2 (by simp [NoB])⟩
set_option maxHeartbeats 2000000 in
theorem radd_tx (base bR : Nat) (v : Value) (L : List X) (r : Rw) (mv lv : Value) (w : World) (hr : RAt w base bR v L) (_hb0 : base ≤ w.heap.size) (hm0 : Sees w cellsI mv r.ms) (hl0 : Sees w cellsL lv r.ls) (hl : L.length ≤ 1099511627776) (hB : rowB r = true) (hh : thereB (L.map (·.1)) r.tx = true) :
    Calls Try.prog 20 #[.pointer (some ⟨bR, 0, none⟩), rowV r mv lv] w fun e w' => e = .returned (.int .i64 160) ∧ Chg NoB w w' := by
  obtain ⟨hml, hll, htx, htx2⟩ := rowB_len hB
  have hmay := fun W hW => rmay_any r mv lv W (hm0.no hW) (hl0.no hW) (by omega) (by omega)
  have hfind := fun W (hW : Chg NoB w W) => find_any base bR v L r.tx W (hr.no hW) (by omega)
  rw [hB] at hmay
  rw [hh] at hfind
  obtain ⟨am, cm, rfl⟩ := hm0.shape
  obtain ⟨al, cl, rfl⟩ := hl0.shape
  obtain ⟨tx, state, first, last, undo, coord, ms, ls⟩ := r
  unfold rowV at *
  simp only at *
  have hbox := At.new w [.int .i64 tx, .int .i64 state, .int .i64 first, .int .i64 last, .int .i64 undo, .int .i64 coord, .slice am ms.length cm, .slice al ls.length cl] 32
  have hcb := (Chg.refl NoB w).alloc (.cells #[.int .i64 tx, .int .i64 state, .int .i64 first, .int .i64 last, .int .i64 undo, .int .i64 coord, .slice am ms.length cm, .slice al ls.length cl] 32)
  have hmay' := hmay _ hcb
  clear hmay
  go_enter Try.func20, Try.ntmps20
  go_wp2_with (first | (go_at_call 17; refine hmay'.mono ?_; clear hmay'; rintro e w1 ⟨rfl, hc1⟩; have hb1 := hbox.chg hc1 (by simp [NoB]); have x0 := hb1.cell 0 rfl; have hfind' := hfind _ (hcb.trans hc1 (by simp [NoB])); clear hfind) | (go_at_call 35; refine hfind'.mono ?_; clear hfind'; rintro e w2 ⟨rfl, hc2⟩; have hcw := (hcb.trans hc1 (by simp [NoB])).trans hc2 (by simp [NoB])))
  go_ret
  exact ⟨rfl, hcw⟩
set_option maxHeartbeats 2000000 in
theorem radd_full (base bR : Nat) (v : Value) (L : List X) (r : Rw) (mv lv : Value) (w : World) (hr : RAt w base bR v L) (_hb0 : base ≤ w.heap.size) (hm0 : Sees w cellsI mv r.ms) (hl0 : Sees w cellsL lv r.ls) (hl : L.length ≤ 1099511627776) (hB : rowB r = true) (hh : thereB (L.map (·.1)) r.tx = false) (hf : 64 ≤ L.length) :
    Calls Try.prog 20 #[.pointer (some ⟨bR, 0, none⟩), rowV r mv lv] w fun e w' => e = .returned (.int .i64 162) ∧ Chg NoB w w' := by
  obtain ⟨hml, hll, htx, htx2⟩ := rowB_len hB
  have hmay := fun W hW => rmay_any r mv lv W (hm0.no hW) (hl0.no hW) (by omega) (by omega)
  have hfind := fun W (hW : Chg NoB w W) => find_any base bR v L r.tx W (hr.no hW) (by omega)
  rw [hB] at hmay
  rw [hh] at hfind
  obtain ⟨am, cm, rfl⟩ := hm0.shape
  obtain ⟨al, cl, rfl⟩ := hl0.shape
  obtain ⟨tx, state, first, last, undo, coord, ms, ls⟩ := r
  unfold rowV at *
  simp only at *
  have hbox := At.new w [.int .i64 tx, .int .i64 state, .int .i64 first, .int .i64 last, .int .i64 undo, .int .i64 coord, .slice am ms.length cm, .slice al ls.length cl] 32
  have hcb := (Chg.refl NoB w).alloc (.cells #[.int .i64 tx, .int .i64 state, .int .i64 first, .int .i64 last, .int .i64 undo, .int .i64 coord, .slice am ms.length cm, .slice al ls.length cl] 32)
  have hmay' := hmay _ hcb
  clear hmay
  have hd9 : decide ((64 : Int) ≤ (L.length : Int)) = true := by simp; omega
  obtain ⟨ao, cap, rfl, _⟩ := hr.row.shape
  go_enter Try.func20, Try.ntmps20
  go_wp2_with (first | (go_at_call 17; refine hmay'.mono ?_; clear hmay'; rintro e w1 ⟨rfl, hc1⟩; have hb1 := hbox.chg hc1 (by simp [NoB]); have x0 := hb1.cell 0 rfl; have hfind' := hfind _ (hcb.trans hc1 (by simp [NoB])); clear hfind) | (go_at_call 35; refine hfind'.mono ?_; clear hfind'; rintro e w2 ⟨rfl, hc2⟩; have hcw := (hcb.trans hc1 (by simp [NoB])).trans hc2 (by simp [NoB]); have c0 := (hr.no hcw).hd.cell 0 rfl))
  go_ret
  exact ⟨rfl, hcw⟩
set_option maxHeartbeats 4000000 in
set_option maxRecDepth 100000 in
theorem radd_ok (base bR : Nat) (v : Value) (L : List X) (r : Rw) (mv lv : Value) (w : World) (hr : RAt w base bR v L) (hb0 : base ≤ w.heap.size) (hm0 : Sees w cellsI mv r.ms) (hl0 : Sees w cellsL lv r.ls) (hl : L.length < 64) (hB : rowB r = true) (hh : thereB (L.map (·.1)) r.tx = false) :
    Calls Try.prog 20 #[.pointer (some ⟨bR, 0, none⟩), rowV r mv lv] w fun e w' => e = .returned (.int .i64 0) ∧ ∃ v' y, y.1 = r ∧ RAt w' base bR v' (L.take (findI (L.map (·.1)) r.tx) ++ [y] ++ L.drop (findI (L.map (·.1)) r.tx)) ∧ Chg (· = bR) w w' := by
  have hfl := findI_le (L.map (·.1)) r.tx
  rw [List.length_map] at hfl
  obtain ⟨hml, hll, htx, htx2⟩ := rowB_len hB
  have hmay := fun W hW => rmay_any r mv lv W (hm0.no hW) (hl0.no hW) (by omega) (by omega)
  have hfind := fun W (hW : Chg NoB w W) => find_any base bR v L r.tx W (hr.no hW) (by omega)
  rw [hB] at hmay
  rw [hh] at hfind
  obtain ⟨am, cm, rfl⟩ := hm0.shape
  obtain ⟨al, cl, rfl⟩ := hl0.shape
  obtain ⟨tx, state, first, last, undo, coord, ms, ls⟩ := r
  unfold rowV at *
  simp only at *
  have hbox := At.new w [.int .i64 tx, .int .i64 state, .int .i64 first, .int .i64 last, .int .i64 undo, .int .i64 coord, .slice am ms.length cm, .slice al ls.length cl] 32
  have hcb := (Chg.refl NoB w).alloc (.cells #[.int .i64 tx, .int .i64 state, .int .i64 first, .int .i64 last, .int .i64 undo, .int .i64 coord, .slice am ms.length cm, .slice al ls.length cl] 32)
  have hmay' := hmay _ hcb
  clear hmay
  generalize findI (L.map (·.1)) tx = p at *
  obtain ⟨i0, hi, hz0, hz1, hz2⟩ := info_parts info32
  have hd9 : decide ((64 : Int) ≤ (L.length : Int)) = false := by simp; omega
  have hhd := hr.hd
  have hown := hr.own
  have hrow := hr.row
  obtain ⟨ao, cap, rfl, hcap, hnil, hsome⟩ := hrow.shape
  have hp1 : (0 : Int) ≤ (p : Int) := by omega
  have hp2 : (p : Int) ≤ (cap : Int) := by omega
  have hp4 : (p : Int) ≤ (L.length : Int) := by omega
  have hp5 : (L.length : Int) ≤ (cap : Int) := by omega
  have hcopy := fun W (hW : Chg NoB w W) => copy_sl (⟨tx, state, first, last, undo, coord, ms, ls⟩ : Rw) _ _ W (hm0.no hW) (hl0.no hW) (by simp only; omega) (by simp only; omega)
  unfold rowV at hcopy
  simp only at hcopy
  have hltR := hhd.lt
  cases ao with
  | none =>
    obtain ⟨rfl, rfl⟩ := hnil rfl
    obtain rfl : p = 0 := by simpa using hfl
    clear hnil hsome hfl hp1 hp2 hp4 hp5 hcap
    simp only [List.take_nil, List.drop_nil]
    go_enter Try.func20, Try.ntmps20
    go_wp2_with (first | (go_at_call 17; refine hmay'.mono ?_; clear hmay'; rintro e w1 ⟨rfl, hc1⟩; have hb1 := hbox.chg hc1 (by simp [NoB]); have x0 := hb1.cell 0 rfl; have hfind' := hfind _ (hcb.trans hc1 (by simp [NoB])); clear hfind) | (go_at_call 35; refine hfind'.mono ?_; clear hfind'; rintro e w2 ⟨rfl, hc2⟩; have hcw := (hcb.trans hc1 (by simp [NoB])).trans hc2 (by simp [NoB]); have c0 := (hr.no hcw).hd.cell 0 rfl; have hrow2 := hrow.chg hcw (by simp [NoB]); clear x0) | (at_builtin; refine stop ?_))
    unfold Stop
    have hsz := hcw.size
    refine wpList_app' (RowOf.nil _ w.heap.size) (l2 := []) ⟨rfl, fun _ => ⟨rfl, rfl⟩, fun ad h => by cases h⟩ cellsR_len (fun y hy => by simp at hy) (by omega) 22 i0 _ 96 Try.underlying22 hi hz0 hz1 hz2 rfl rfl _ _ rfl rfl rfl (by simp [maxLen]) (by simp) hsz ?_
    intro v2 w3 hr2 hg2 _
    rw [List.nil_append] at hr2
    have hcw3 : Chg NoB w w3 := hcw.grown hg2 (by simp [Value.ownBlock])
    have hb3 := (hb1.chg hc2 (by simp [NoB])).grown hg2 (by simp [Value.ownBlock])
    have hcopy' := hcopy _ hcw3
    have z0 := hb3.cell 0 rfl; have z1 := hb3.cell 1 rfl; have z2 := hb3.cell 2 rfl; have z3 := hb3.cell 3 rfl; have z4 := hb3.cell 4 rfl; have z5 := hb3.cell 5 rfl; have z6 := hb3.cell 6 rfl; have z7 := hb3.cell 7 rfl
    have hl3 := hb3.lt
    obtain ⟨ao2, n2, cap2, rfl⟩ := hr2.slice
    clear hcopy c0
    go_wp2_with (first | (go_at_call 12; refine hcopy'.mono ?_; clear hcopy'; rintro e w4 ⟨a1, k1, a2, k2, rfl, hR4, hc4⟩) | (at_builtin; refine stop ?_))
    unfold Stop
    have hr24 := hr2.chg hc4 (by simp [NoB])
    have hsz4 := hc4.size
    have hsz3 := hcw3.size
    refine wpList_app' (hr24.alloc (.cells #[.int .i64 tx, .int .i64 state, .int .i64 first, .int .i64 last, .int .i64 undo, .int .i64 coord, .slice a1 ms.length k1, .slice a2 ls.length k2] 32)) (SrcOf.one (a := ((⟨tx, state, first, last, undo, coord, ms, ls⟩, .slice a1 ms.length k1, .slice a2 ls.length k2) : X)) (At.new w4 [.int .i64 tx, .int .i64 state, .int .i64 first, .int .i64 last, .int .i64 undo, .int .i64 coord, .slice a1 ms.length k1, .slice a2 ls.length k2] 32)) cellsR_len (fun y hy => by rw [List.mem_singleton] at hy; subst hy; exact hR4.one) (by omega) 22 i0 _ 96 Try.underlying22 hi hz0 hz1 hz2 rfl rfl _ _ rfl rfl rfl (by simp [maxLen]) (by simp) (by simp; omega) ?_
    intro v3 w5 hr3 hg3 _
    have hcw5 : Chg NoB w w5 := ((hcw3.trans hc4 (by simp [NoB])).alloc _).grown hg3 (fun g hg hlt => absurd (hr24.ge g hg).1 (by omega))
    have hRy5 := (hR4.alloc (.cells #[.int .i64 tx, .int .i64 state, .int .i64 first, .int .i64 last, .int .i64 undo, .int .i64 coord, .slice a1 ms.length k1, .slice a2 ls.length k2] 32)).grown (hr24.alloc (.cells #[.int .i64 tx, .int .i64 state, .int .i64 first, .int .i64 last, .int .i64 undo, .int .i64 coord, .slice a1 ms.length k1, .slice a2 ls.length k2] 32)) hg3
    have hsz5 := hcw5.size
    have c5 := (hr.no hcw5).hd.cell 0 rfl
    have hrow5 := hrow.chg hcw5 (by simp [NoB])
    clear z0 z1 z2 z3 z4 z5 z6 z7 hb3 hl3 hR4
    obtain ⟨ao3, n3, cap3, rfl⟩ := hr3.slice
    go_wp2_with (at_builtin; refine stop ?_)
    all_goals
      unfold Stop
      refine wpList_app' hr3 (l2 := []) ⟨rfl, fun _ => ⟨rfl, rfl⟩, fun ad h => by cases h⟩ cellsR_len (fun y hy => by simp at hy) (by omega) 22 i0 _ 96 Try.underlying22 hi hz0 hz1 hz2 rfl rfl _ _ rfl rfl rfl (by simp [maxLen]) (by simp) hsz5 ?_
      intro v4 w6 hr4 hg4 _
      have hcw6 : Chg NoB w w6 := hcw5.grown hg4 (fun g hg hlt => absurd (hr3.ge g hg).1 (by omega))
      have hRy6 := hRy5.grown hr3 hg4
      have hd6 := hhd.chg hcw6 (by simp [NoB])
      have c6 := hd6.cell 0 rfl
      have f6 := hd6.frozen 0
      obtain ⟨ao4, n4, cap4, rfl⟩ := hr4.slice
      have hcS := (Chg.refl (· = bR) w6).setCell (p := ⟨bR, 0, none⟩) (fun _ => rfl) (.slice ao4 n4 cap4)
      clear c5 hrow5
      go_wp2_with fail
      go_ret
      refine ⟨rfl, _, ((⟨tx, state, first, last, undo, coord, ms, ls⟩, .slice a1 ms.length k1, .slice a2 ls.length k2) : X), rfl, ⟨hd6.setCell 0 _, (hr4.mono hb0).chg hcS (fun g hg e => by have := (hr4.ge g hg).1; omega), fun y hy => ?_⟩, (hcw6.mono (T := (· = bR)) (by simp [NoB])).setCell (p := ⟨bR, 0, none⟩) (fun _ => rfl) _⟩
      have hy' : y = ((⟨tx, state, first, last, undo, coord, ms, ls⟩, .slice a1 ms.length k1, .slice a2 ls.length k2) : X) := by simpa using hy
      subst hy'
      exact (hRy6.mono (Nat.zero_le _)).chg_at hd6 (by decide) (by decide) hcS
  | some ad =>
    obtain ⟨g, rfl, _⟩ := hsome ad rfl
    clear hnil hsome
    go_enter Try.func20, Try.ntmps20
    go_wp2_with (first | (go_at_call 17; refine hmay'.mono ?_; clear hmay'; rintro e w1 ⟨rfl, hc1⟩; have hb1 := hbox.chg hc1 (by simp [NoB]); have x0 := hb1.cell 0 rfl; have hfind' := hfind _ (hcb.trans hc1 (by simp [NoB])); clear hfind) | (go_at_call 35; refine hfind'.mono ?_; clear hfind'; rintro e w2 ⟨rfl, hc2⟩; have hcw := (hcb.trans hc1 (by simp [NoB])).trans hc2 (by simp [NoB]); have c0 := (hr.no hcw).hd.cell 0 rfl; have hrow2 := hrow.chg hcw (by simp [NoB]); clear x0) | (at_builtin; refine stop ?_))
    unfold Stop
    have hsz := hcw.size
    refine wpList_app' (RowOf.nil _ w.heap.size) (hrow2.take p hfl) cellsR_len (fun y hy => (hown y (List.mem_of_mem_take hy)).one) (by omega) 22 i0 _ 96 Try.underlying22 hi hz0 hz1 hz2 rfl rfl _ _ rfl rfl rfl (by simp [maxLen]; omega) (by simp; omega) hsz ?_
    intro v2 w3 hr2 hg2 _
    rw [List.nil_append] at hr2
    have hcw3 : Chg NoB w w3 := hcw.grown hg2 (by simp [Value.ownBlock])
    have hb3 := (hb1.chg hc2 (by simp [NoB])).grown hg2 (by simp [Value.ownBlock])
    have hcopy' := hcopy _ hcw3
    have z0 := hb3.cell 0 rfl; have z1 := hb3.cell 1 rfl; have z2 := hb3.cell 2 rfl; have z3 := hb3.cell 3 rfl; have z4 := hb3.cell 4 rfl; have z5 := hb3.cell 5 rfl; have z6 := hb3.cell 6 rfl; have z7 := hb3.cell 7 rfl
    have hl3 := hb3.lt
    obtain ⟨ao2, n2, cap2, rfl⟩ := hr2.slice
    clear hcopy c0
    go_wp2_with (first | (go_at_call 12; refine hcopy'.mono ?_; clear hcopy'; rintro e w4 ⟨a1, k1, a2, k2, rfl, hR4, hc4⟩) | (at_builtin; refine stop ?_))
    unfold Stop
    have hr24 := hr2.chg hc4 (by simp [NoB])
    have hsz4 := hc4.size
    have hsz3 := hcw3.size
    have hlp : (L.take p).length = p := by simp; omega
    refine wpList_app' (hr24.alloc (.cells #[.int .i64 tx, .int .i64 state, .int .i64 first, .int .i64 last, .int .i64 undo, .int .i64 coord, .slice a1 ms.length k1, .slice a2 ls.length k2] 32)) (SrcOf.one (a := ((⟨tx, state, first, last, undo, coord, ms, ls⟩, .slice a1 ms.length k1, .slice a2 ls.length k2) : X)) (At.new w4 [.int .i64 tx, .int .i64 state, .int .i64 first, .int .i64 last, .int .i64 undo, .int .i64 coord, .slice a1 ms.length k1, .slice a2 ls.length k2] 32)) cellsR_len (fun y hy => by rw [List.mem_singleton] at hy; subst hy; exact hR4.one) (by omega) 22 i0 _ 96 Try.underlying22 hi hz0 hz1 hz2 rfl rfl _ _ rfl rfl rfl (by rw [hlp]; simp [maxLen]; omega) (by rw [hlp]; omega) (by simp; omega) ?_
    intro v3 w5 hr3 hg3 _
    have hcw5 : Chg NoB w w5 := ((hcw3.trans hc4 (by simp [NoB])).alloc _).grown hg3 (fun g hg hlt => absurd (hr24.ge g hg).1 (by omega))
    have hRy5 := (hR4.alloc (.cells #[.int .i64 tx, .int .i64 state, .int .i64 first, .int .i64 last, .int .i64 undo, .int .i64 coord, .slice a1 ms.length k1, .slice a2 ls.length k2] 32)).grown (hr24.alloc (.cells #[.int .i64 tx, .int .i64 state, .int .i64 first, .int .i64 last, .int .i64 undo, .int .i64 coord, .slice a1 ms.length k1, .slice a2 ls.length k2] 32)) hg3
    have hsz5 := hcw5.size
    have c5 := (hr.no hcw5).hd.cell 0 rfl
    have hrow5 := hrow.chg hcw5 (by simp [NoB])
    clear z0 z1 z2 z3 z4 z5 z6 z7 hb3 hl3 hR4
    obtain ⟨ao3, n3, cap3, rfl⟩ := hr3.slice
    have hll3 : (L.take p ++ [((⟨tx, state, first, last, undo, coord, ms, ls⟩, .slice a1 ms.length k1, .slice a2 ls.length k2) : X)]).length = p + 1 := by simp; omega
    go_wp2_with (at_builtin; refine stop ?_)
    all_goals
      unfold Stop
      refine wpList_app' hr3 (l2 := L.drop p) (by first | exact hrow5.drop_at cellsR_len p _ (by omega) | exact SrcOf.left (by omega)) cellsR_len (fun y hy => (hown y (List.mem_of_mem_drop hy)).one) (by omega) 22 i0 _ 96 Try.underlying22 hi hz0 hz1 hz2 rfl rfl _ _ rfl rfl rfl (by rw [hll3]; simp [maxLen]; omega) (by rw [hll3]; omega) hsz5 ?_
      intro v4 w6 hr4 hg4 _
      have hcw6 : Chg NoB w w6 := hcw5.grown hg4 (fun g hg hlt => absurd (hr3.ge g hg).1 (by omega))
      have hRy6 := hRy5.grown hr3 hg4
      have hd6 := hhd.chg hcw6 (by simp [NoB])
      have c6 := hd6.cell 0 rfl
      have f6 := hd6.frozen 0
      obtain ⟨ao4, n4, cap4, rfl⟩ := hr4.slice
      have hcS := (Chg.refl (· = bR) w6).setCell (p := ⟨bR, 0, none⟩) (fun _ => rfl) (.slice ao4 n4 cap4)
      clear c5 hrow5
      go_wp2_with fail
      go_ret
      refine ⟨rfl, _, ((⟨tx, state, first, last, undo, coord, ms, ls⟩, .slice a1 ms.length k1, .slice a2 ls.length k2) : X), rfl, ⟨hd6.setCell 0 _, (hr4.mono hb0).chg hcS (fun g hg e => by have := (hr4.ge g hg).1; omega), fun y hy => ?_⟩, (hcw6.mono (T := (· = bR)) (by simp [NoB])).setCell (p := ⟨bR, 0, none⟩) (fun _ => rfl) _⟩
      rcases List.mem_append.1 hy with hy | hy
      · rcases List.mem_append.1 hy with hy | hy
        · exact ((hown y (List.mem_of_mem_take hy)).no hcw6).chg_at hd6 (by decide) (by decide) hcS
        · rw [List.mem_singleton] at hy
          subst hy
          exact (hRy6.mono (Nat.zero_le _)).chg_at hd6 (by decide) (by decide) hcS
      · exact ((hown y (List.mem_of_mem_drop hy)).no hcw6).chg_at hd6 (by decide) (by decide) hcS
end Go.Proofs.Ytpjmamobiancdaa
