/- The reference's copy of a row. Conditions: at most 2^40 items. -/
import Derived.Test.YtpjmamobiancdaaOx
namespace Go.Proofs.Ytpjmamobiancdaa
open Go.RowKit Go.Maps Go.BigFrame
set_option maxHeartbeats 4000000 in
theorem copy_any (r : Rw) (mv lv : Value) (w : World) (hm0 : Sees w cellsI mv r.ms) (hl0 : Sees w cellsL lv r.ls) (hml : r.ms.length ≤ 1099511627776) (hll : r.ls.length ≤ 1099511627776) :
    Calls Try.prog 12 #[rowV r mv lv] w fun e w' => ∃ mv' lv', e = .returned (rowV r mv' lv') ∧ RHas w' w.heap.size (r, mv', lv') ∧ Chg NoB w w' := by
  obtain ⟨am, cm, rfl⟩ := hm0.shape
  obtain ⟨al, cl, rfl⟩ := hl0.shape
  obtain ⟨tx, state, first, last, undo, coord, ms, ls⟩ := r
  unfold rowV
  simp only at *
  obtain ⟨i0, hi, hz0, hz1, hz2⟩ := info_parts info3
  obtain ⟨j0, hj, hy0, hy1, hy2⟩ := info_parts info42
  have hbox := (At.new w [.int .i64 tx, .int .i64 state, .int .i64 first, .int .i64 last, .int .i64 undo, .int .i64 coord, .slice am ms.length cm, .slice al ls.length cl] 32).alloc (.cells #[.int .i64 0, .int .i64 0, .int .i64 0, .int .i64 0, .int .i64 0, .int .i64 0, .slice none 0 0, .slice none 0 0] 32)
  have hcb := ((Chg.refl NoB w).alloc (.cells #[.int .i64 tx, .int .i64 state, .int .i64 first, .int .i64 last, .int .i64 undo, .int .i64 coord, .slice am ms.length cm, .slice al ls.length cl] 32)).alloc (.cells #[.int .i64 0, .int .i64 0, .int .i64 0, .int .i64 0, .int .i64 0, .int .i64 0, .slice none 0 0, .slice none 0 0] 32)
  have hres := At.new (w.alloc (.cells #[.int .i64 tx, .int .i64 state, .int .i64 first, .int .i64 last, .int .i64 undo, .int .i64 coord, .slice am ms.length cm, .slice al ls.length cl] 32)) [.int .i64 0, .int .i64 0, .int .i64 0, .int .i64 0, .int .i64 0, .int .i64 0, .slice none 0 0, .slice none 0 0] 32
  rw [World.size_alloc] at hres
  have hmade : IRow _ (w.heap.size + 2) _ [] := RowOf.made ((w.alloc (.cells #[.int .i64 tx, .int .i64 state, .int .i64 first, .int .i64 last, .int .i64 undo, .int .i64 coord, .slice am ms.length cm, .slice al ls.length cl] 32)).alloc (.cells #[.int .i64 0, .int .i64 0, .int .i64 0, .int .i64 0, .int .i64 0, .int .i64 0, .slice none 0 0, .slice none 0 0] 32)) 3 1 (w.heap.size + 2) (by simp)
  have hsrc := ((hm0.no hcb).alloc (.cells #[] 3)).src'
  rw [World.size_alloc, World.size_alloc] at hmade
  go_enter Try.func12, Try.ntmps12
  go_wp2_with (at_builtin; refine stop ?_)
  unfold Stop
  refine wpList_app hmade hsrc cellsI_len cellsI_one (by omega) 29 i0 _ 8 Try.underlying29 hi hz0 hz1 hz2 rfl rfl _ _ rfl rfl rfl (by simp [maxLen]; omega) (by simp; omega) (by simp) ?_
  intro v1 w3 hr1 hg1 _
  obtain ⟨a1, k1, hv1, _⟩ := hr1.shape
  have hc3 : Chg NoB w w3 := (hcb.alloc _).grown hg1 (by simp [Value.ownBlock]; omega)
  have hb3 := (hbox.alloc (.cells #[] 3)).grown hg1 (by simp [Value.ownBlock]; omega)
  have hr3 := (hres.alloc (.cells #[] 3)).grown hg1 (by simp [Value.ownBlock])
  have hsz3 : w.heap.size + 3 ≤ w3.heap.size := Nat.le_trans (by simp) hg1.size
  have hn1 : ∀ g, v1.ownBlock = some g → w.heap.size + 2 ≤ g := fun g hg => (hr1.ge g hg).1
  simp only [List.nil_append] at hv1 hr1
  subst hv1
  have hl3 := hl0.no hc3
  have hlt0 := hl0.lt cellsL_len (by omega)
  clear hg1 hm0 hl0 hbox hres hmade hsrc hi hz0 hz1 hz2
  have z6 := hb3.cell 6 rfl
  have z7 := hb3.cell 7 rfl
  have f6 := hb3.frozen 6
  have hlt3 := hb3.lt
  go_wp2_with (at_builtin; refine stop ?_)
  unfold Stop
  have hb4 := hb3.setCell 6 (.slice a1 ms.length k1)
  have hr4 := hr3.setCell_other (p := ⟨w.heap.size, 6, none⟩) (by simp) (.slice a1 ms.length k1)
  have hc4 := hc3.setCell (p := ⟨w.heap.size, 6, none⟩) (fun h => absurd h (Nat.lt_irrefl _)) (.slice a1 ms.length k1)
  have hl4 := hl3.chg ((Chg.refl (fun b => b = w.heap.size) w3).setCell (p := ⟨w.heap.size, 6, none⟩) (fun _ => rfl) (.slice a1 ms.length k1)) (fun ad n c he hne e => by have := hlt0 ad n c he hne; omega)
  have hs4 : w.heap.size + 3 ≤ (w3.setCell ⟨w.heap.size, 6, none⟩ (.slice a1 ms.length k1)).heap.size := by simpa [World.setCell] using hsz3
  have hr1' := hr1.chg ((Chg.refl (fun b => b = w.heap.size) w3).setCell (p := ⟨w.heap.size, 6, none⟩) (fun _ => rfl) (.slice a1 ms.length k1)) (fun g hg e => by have := hn1 g hg; omega)
  simp only [List.set_cons_succ, List.set_cons_zero] at hb4
  have hs34 : (w3.setCell ⟨w.heap.size, 6, none⟩ (.slice a1 ms.length k1)).heap.size = w3.heap.size := by simp [World.setCell]
  generalize w3.setCell ⟨w.heap.size, 6, none⟩ (.slice a1 ms.length k1) = w4 at *
  have hmade2 : LRow (w4.alloc (.cells #[] 42)) w4.heap.size _ [] := RowOf.made w4 42 2 w4.heap.size (Nat.le_refl _)
  have hw34 : w4.heap.size = w3.heap.size := hs34
  rw [← hw34]
  refine wpList_app hmade2 (hl4.alloc _).src' cellsL_len cellsL_one (by omega) 30 j0 _ 24 Try.underlying30 hj hy0 hy1 hy2 rfl rfl _ _ rfl rfl rfl (by simp [maxLen]; omega) (by simp; omega) (by simp) ?_
  intro v2 w5 hr2 hg2 _
  obtain ⟨a2, k2, hv2, _⟩ := hr2.shape
  have hc5 : Chg NoB w w5 := (hc4.alloc _).grown hg2 (by simp [Value.ownBlock]; omega)
  have hb5 := (hb4.alloc (.cells #[] 42)).grown hg2 (by simp [Value.ownBlock]; omega)
  have hr5 := (hr4.alloc (.cells #[] 42)).grown hg2 (by simp [Value.ownBlock]; omega)
  have hn2 : ∀ g, v2.ownBlock = some g → w.heap.size + 2 ≤ g := fun g hg => by have := (hr2.ge g hg).1; omega
  have hr15 := (hr1'.alloc (.cells #[] 42)).grown hg2 (fun g hg e => by have := (hr1'.ge g hg).2; simp [Value.ownBlock] at e; omega)
  simp only [List.nil_append] at hv2 hr2
  subst hv2
  have hb6 := hb5.setCell 7 (.slice a2 ls.length k2)
  have hr6 := hr5.setCell_other (p := ⟨w.heap.size, 7, none⟩) (by simp) (.slice a2 ls.length k2)
  have hc6 := hc5.setCell (p := ⟨w.heap.size, 7, none⟩) (fun h => absurd h (Nat.lt_irrefl _)) (.slice a2 ls.length k2)
  have hc56 := ((Chg.refl (fun b => b = w.heap.size) w5).setCell (p := ⟨w.heap.size, 7, none⟩) (fun _ => rfl) (.slice a2 ls.length k2))
  have hr16 := hr15.chg hc56 (fun g hg e => by have := hn1 g hg; omega)
  have hr26 := hr2.chg hc56 (fun g hg e => by have := hn2 g hg; omega)
  have hlt5 := hb5.lt
  simp only [List.set_cons_succ, List.set_cons_zero] at hb6
  have y7 := hb5.cell 7 rfl
  have g7 := hb5.frozen 7
  have p0 := hb6.cell 0 rfl
  have p1 := hb6.cell 1 rfl
  have p2 := hb6.cell 2 rfl
  have p3 := hb6.cell 3 rfl
  have p4 := hb6.cell 4 rfl
  have p5 := hb6.cell 5 rfl
  have p6 := hb6.cell 6 rfl
  have p7 := hb6.cell 7 rfl
  have q0 := hr6.cell 0 rfl
  have q1 := hr6.cell 1 rfl
  have q2 := hr6.cell 2 rfl
  have q3 := hr6.cell 3 rfl
  have q4 := hr6.cell 4 rfl
  have q5 := hr6.cell 5 rfl
  have q6 := hr6.cell 6 rfl
  have q7 := hr6.cell 7 rfl
  have f0 := hr6.frozen 0
  have f1 := hr6.frozen 1
  have f2 := hr6.frozen 2
  have f3 := hr6.frozen 3
  have f4 := hr6.frozen 4
  have f5 := hr6.frozen 5
  have f6 := hr6.frozen 6
  have f7 := hr6.frozen 7
  clear hg2 hmade2 hj hy0 hy1 hy2 hb4 hr4 hc4 hl4 hl3 hb5 hr5 hb3 hr3 hc3 hc5 hcb
  go_wp2
  generalize w5.setCell ⟨w.heap.size, 7, none⟩ (.slice a2 ls.length k2) = w6 at *
  refine bodyPost_ret (v := .agg #[.int .i64 tx, .int .i64 state, .int .i64 first, .int .i64 last, .int .i64 undo, .int .i64 coord, .slice a1 ms.length k1, .slice a2 ls.length k2]) ?_ rfl ⟨_, _, rfl, ⟨?_, ?_⟩, ?_⟩
  · simp [results, Try.results12, go_sem, q0, q1, q2, q3, q4, q5, q6, q7]
  · exact (hr16.mono (by omega)).chg ((Chg.refl (fun b => b = w.heap.size + 1) w6).set8 (fun _ => rfl) _ _ _ _ _ _ _ _) (fun g hg e => by have := hn1 g hg; omega)
  · exact (hr26.mono (by omega)).chg ((Chg.refl (fun b => b = w.heap.size + 1) w6).set8 (fun _ => rfl) _ _ _ _ _ _ _ _) (fun g hg e => by have := hn2 g hg; omega)
  · exact hc6.set8 (fun h => by omega) _ _ _ _ _ _ _ _
end Go.Proofs.Ytpjmamobiancdaa
