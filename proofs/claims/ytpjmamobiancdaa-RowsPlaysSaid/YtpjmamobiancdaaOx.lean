/- A row of one's own. Conditions: at most 2^40 items. -/
import Derived.Test.YtpjmamobiancdaaOw
namespace Go.Proofs.Ytpjmamobiancdaa
open Go.RowKit Go.Maps Go.BigFrame
/-- The lists of a row lie in rows of their own, from block base on. -/
def RHas (w : World) (base : Nat) (x : Rw × Value × Value) : Prop := IRow w base x.2.1 x.1.ms ∧ LRow w base x.2.2 x.1.ls
set_option maxHeartbeats 2000000 in
theorem own_any (r : Rw) (mv lv : Value) (w : World) (hm0 : Sees w cellsI mv r.ms) (hl0 : Sees w cellsL lv r.ls) (hml : r.ms.length ≤ 1099511627776) (hll : r.ls.length ≤ 1099511627776) :
    Calls Try.prog 30 #[rowV r mv lv] w fun e w' => ∃ mv' lv', e = .returned (rowV r mv' lv') ∧ RHas w' w.heap.size (r, mv', lv') ∧ Chg NoB w w' := by
  obtain ⟨am, cm, rfl⟩ := hm0.shape
  obtain ⟨al, cl, rfl⟩ := hl0.shape
  have hci := fun W (hW : Chg NoB w W) => clone_int _ r.ms W (hm0.no hW) hml
  have hcl := fun W (hW : Chg NoB w W) => clone_lock _ r.ls W (hl0.no hW) hll
  obtain ⟨tx, state, first, last, undo, coord, ms, ls⟩ := r
  unfold rowV
  simp only at *
  have hbox := ((At.new w [.int .i64 tx, .int .i64 state, .int .i64 first, .int .i64 last, .int .i64 undo, .int .i64 coord, .slice am ms.length cm, .slice al ls.length cl] 32).alloc (.cells #[.int .i64 0, .int .i64 0, .int .i64 0, .int .i64 0, .int .i64 0, .int .i64 0, .slice none 0 0, .slice none 0 0] 32)).drew
  have hcb := (((Chg.refl NoB w).alloc (.cells #[.int .i64 tx, .int .i64 state, .int .i64 first, .int .i64 last, .int .i64 undo, .int .i64 coord, .slice am ms.length cm, .slice al ls.length cl] 32)).alloc (.cells #[.int .i64 0, .int .i64 0, .int .i64 0, .int .i64 0, .int .i64 0, .int .i64 0, .slice none 0 0, .slice none 0 0] 32)).drew
  have hres := (At.new (w.alloc (.cells #[.int .i64 tx, .int .i64 state, .int .i64 first, .int .i64 last, .int .i64 undo, .int .i64 coord, .slice am ms.length cm, .slice al ls.length cl] 32)) [.int .i64 0, .int .i64 0, .int .i64 0, .int .i64 0, .int .i64 0, .int .i64 0, .slice none 0 0, .slice none 0 0] 32).drew
  rw [World.size_alloc] at hres
  clear hm0 hl0 hml hll
  have q6 := hbox.cell 6 rfl
  have q7 := hbox.cell 7 rfl
  have hc1 := hci _ hcb
  go_enter Try.func30, Try.ntmps30
  go_upto_region 1 with (fail)
  go_region_with (first
    | (go_at_call 37; refine hc1.mono ?_; clear hc1; rintro e w3 ⟨v1, rfl, hr1, hc3⟩; obtain ⟨a1, k1, rfl, _⟩ := hr1.shape; have q7' := (hbox.chg hc3 (by simp [NoB])).cell 7 rfl; have hc2 := hcl _ (hcb.trans hc3 (by simp [NoB])))
    | (go_at_call 38; refine hc2.mono ?_; clear hc2; rintro e w4 ⟨v2, rfl, hr2, hc4⟩; obtain ⟨a2, k2, rfl, _⟩ := hr2.shape; have hb4 := (hbox.chg hc3 (by simp [NoB])).chg hc4 (by simp [NoB]); have z6 := hb4.cell 6 rfl; have z7 := hb4.cell 7 rfl; have f6 := hb4.frozen 6; have f7 := hb4.frozen 7))
  all_goals
    clear hci hcl z6 z7 f6 f7 q6 q7 q7'
    have hb5 := (hb4.setCell 6 (.slice a1 ms.length k1)).setCell 7 (.slice a2 ls.length k2)
    have hr5 := (((hres.chg hc3 (by simp [NoB])).chg hc4 (by simp [NoB])).setCell_other (p := ⟨w.heap.size, 6, none⟩) (by simp) (.slice a1 ms.length k1)).setCell_other (p := ⟨w.heap.size, 7, none⟩) (by simp) (.slice a2 ls.length k2)
    have hcw := (((hcb.trans hc3 (by simp [NoB])).trans hc4 (by simp [NoB])).setCell (p := ⟨w.heap.size, 6, none⟩) (fun h => absurd h (Nat.lt_irrefl _)) (.slice a1 ms.length k1)).setCell (p := ⟨w.heap.size, 7, none⟩) (fun h => absurd h (Nat.lt_irrefl _)) (.slice a2 ls.length k2)
    simp only [List.set_cons_succ, List.set_cons_zero] at hb5
    have hsz : w.heap.size + 2 ≤ w4.heap.size := Nat.le_trans (by simp) (Nat.le_trans hc3.size hc4.size)
    have hsz3 : w.heap.size + 2 ≤ w3.heap.size := Nat.le_trans (by simp) hc3.size
    have hn1 : ∀ g, (Value.slice a1 ms.length k1).ownBlock = some g → w.heap.size + 2 ≤ g := fun g hg => Nat.le_trans (by simp) (hr1.ge g hg).1
    have hn2 : ∀ g, (Value.slice a2 ls.length k2).ownBlock = some g → w.heap.size + 2 ≤ g := fun g hg => Nat.le_trans hsz3 (hr2.ge g hg).1
    have hr1' : IRow w4 w.heap.size (.slice a1 ms.length k1) ms := (hr1.chg hc4 (by simp [NoB])).mono (by simp; omega)
    have hr2' : LRow w4 w.heap.size (.slice a2 ls.length k2) ls := hr2.mono (by omega)
    have hc45 := ((Chg.refl (fun b => b = w.heap.size) w4).setCell (p := ⟨w.heap.size, 6, none⟩) (fun _ => rfl) (.slice a1 ms.length k1)).setCell (p := ⟨w.heap.size, 7, none⟩) (fun _ => rfl) (.slice a2 ls.length k2)
    have hr1'' := hr1'.chg hc45 (fun g hg e => by have := hn1 g hg; omega)
    have hr2'' := hr2'.chg hc45 (fun g hg e => by have := hn2 g hg; omega)
    have hrn : ∀ g, (Value.slice a1 ms.length k1).ownBlock = some g → g ≠ w.heap.size + 1 := fun g hg => by have := hn1 g hg; omega
    have hrn2 : ∀ g, (Value.slice a2 ls.length k2).ownBlock = some g → g ≠ w.heap.size + 1 := fun g hg => by have := hn2 g hg; omega
    generalize ((w4.setCell ⟨w.heap.size, 6, none⟩ (.slice a1 ms.length k1)).setCell ⟨w.heap.size, 7, none⟩ (.slice a2 ls.length k2)) = w5 at *
    clear hr1' hr2' hr1 hr2 hn1 hn2 hc45 hsz hsz3 hb4 hc3 hc4 hcb hbox hres
    have p0 := hb5.cell 0 rfl
    have p1 := hb5.cell 1 rfl
    have p2 := hb5.cell 2 rfl
    have p3 := hb5.cell 3 rfl
    have p4 := hb5.cell 4 rfl
    have p5 := hb5.cell 5 rfl
    have p6 := hb5.cell 6 rfl
    have p7 := hb5.cell 7 rfl
    have q0 := hr5.cell 0 rfl
    have q1 := hr5.cell 1 rfl
    have q2 := hr5.cell 2 rfl
    have q3 := hr5.cell 3 rfl
    have q4 := hr5.cell 4 rfl
    have q5 := hr5.cell 5 rfl
    have q6 := hr5.cell 6 rfl
    have q7 := hr5.cell 7 rfl
    have f0 := hr5.frozen 0
    have f1 := hr5.frozen 1
    have f2 := hr5.frozen 2
    have f3 := hr5.frozen 3
    have f4 := hr5.frozen 4
    have f5 := hr5.frozen 5
    have f6 := hr5.frozen 6
    have f7 := hr5.frozen 7
    go_wp2
    refine bodyPost_ret (v := .agg #[.int .i64 tx, .int .i64 state, .int .i64 first, .int .i64 last, .int .i64 undo, .int .i64 coord, .slice a1 ms.length k1, .slice a2 ls.length k2]) ?_ rfl ⟨_, _, rfl, ⟨?_, ?_⟩, ?_⟩
    · simp [results, Try.results30, go_sem, q0, q1, q2, q3, q4, q5, q6, q7]
    · exact hr1''.chg ((Chg.refl (fun b => b = w.heap.size + 1) w5).set8 (fun _ => rfl) _ _ _ _ _ _ _ _) hrn
    · exact hr2''.chg ((Chg.refl (fun b => b = w.heap.size + 1) w5).set8 (fun _ => rfl) _ _ _ _ _ _ _ _) hrn2
    · exact hcw.set8 (fun h => by omega) _ _ _ _ _ _ _ _
end Go.Proofs.Ytpjmamobiancdaa
