/- May a row be? The table's test and the reference's. Conditions: at most 2^40 items. -/
import Derived.Test.YtpjmamobiancdaaOx
import Derived.Test.YtpjmamobiancdaaFy
namespace Go.Proofs.Ytpjmamobiancdaa
open Go.RowKit Go.Maps Go.BigFrame
def mayI (r : Rw) : Int := if rowB r = true then 0 else 1
theorem may_nil (r : Rw) (mv lv : Value) (w : World) : Calls Try.prog 29 #[.pointer none, rowV r mv lv] w fun e w' => e = .returned (.int .i64 2) ∧ Chg NoB w w' := by
  unfold rowV
  go_enter Try.func29, Try.ntmps29
  go_wp2
  go_ret
  exact ⟨rfl, (Chg.refl _ w).alloc _⟩
set_option maxHeartbeats 2000000 in
theorem may_any (bt : Nat) (r : Rw) (mv lv : Value) (w : World) (hm0 : Sees w cellsI mv r.ms) (hl0 : Sees w cellsL lv r.ls) (hml : r.ms.length ≤ 1099511627776) (hll : r.ls.length ≤ 1099511627776) :
    Calls Try.prog 29 #[.pointer (some ⟨bt, 0, none⟩), rowV r mv lv] w fun e w' => e = .returned (.int .i64 (mayI r)) ∧ Chg NoB w w' := by
  obtain ⟨am, cm, rfl⟩ := hm0.shape
  obtain ⟨al, cl, rfl⟩ := hl0.shape
  have hmay := fun W (hW : Chg NoB w W) b (hb : At W b (cellsR (r, .slice am r.ms.length cm, .slice al r.ls.length cl)) 32) => may_rec b r _ _ W hb (hm0.no hW) (hl0.no hW) hml hll
  clear hm0 hl0 hml hll
  have HM : Hid (mayI r = if rowB r = true then 0 else 1) := rfl
  generalize mayI r = M at HM ⊢
  generalize rowB r = B at HM hmay
  obtain ⟨tx, state, first, last, undo, coord, ms, ls⟩ := r
  unfold rowV
  unfold cellsR recV recC at hmay
  simp only at *
  have hcb := (Chg.refl NoB w).alloc (.cells #[.int .i64 tx, .int .i64 state, .int .i64 first, .int .i64 last, .int .i64 undo, .int .i64 coord, .slice am ms.length cm, .slice al ls.length cl] 32)
  have hcb2 := hcb.alloc (.cells #[.int .i64 tx, .int .i64 state, .int .i64 first, .int .i64 last, .int .i64 undo, .int .i64 coord, .slice am ms.length cm, .slice al ls.length cl] 32)
  have hbox2 := At.new (w.alloc (.cells #[.int .i64 tx, .int .i64 state, .int .i64 first, .int .i64 last, .int .i64 undo, .int .i64 coord, .slice am ms.length cm, .slice al ls.length cl] 32)) [.int .i64 tx, .int .i64 state, .int .i64 first, .int .i64 last, .int .i64 undo, .int .i64 coord, .slice am ms.length cm, .slice al ls.length cl] 32
  rw [World.size_alloc] at hbox2
  have hmay' := hmay _ hcb2 _ hbox2
  clear hmay hbox2
  cases B with
  | true =>
    have hM := HM.out
    simp only [if_true] at hM
    subst hM
    clear HM
    go_enter Try.func29, Try.ntmps29
    go_wp2_with (go_at_call 36; refine hmay'.mono ?_; clear hmay'; rintro e w2 ⟨rfl, hc2⟩)
    go_ret
    exact ⟨rfl, hcb2.trans hc2 (by simp [NoB])⟩
  | false =>
    have hM := HM.out
    simp only [Bool.false_eq_true, if_false] at hM
    subst hM
    clear HM
    go_enter Try.func29, Try.ntmps29
    go_wp2_with (go_at_call 36; refine hmay'.mono ?_; clear hmay'; rintro e w2 ⟨rfl, hc2⟩)
    go_ret
    exact ⟨rfl, hcb2.trans hc2 (by simp [NoB])⟩
set_option maxHeartbeats 2000000 in
theorem rmay_any (r : Rw) (mv lv : Value) (w : World) (hm0 : Sees w cellsI mv r.ms) (hl0 : Sees w cellsL lv r.ls) (hml : r.ms.length ≤ 1099511627776) (hll : r.ls.length ≤ 1099511627776) :
    Calls Try.prog 17 #[rowV r mv lv] w fun e w' => e = .returned (.bool (rowB r)) ∧ Chg NoB w w' := by
  obtain ⟨am, cm, rfl⟩ := hm0.shape
  obtain ⟨al, cl, rfl⟩ := hl0.shape
  have hmay := fun W (hW : Chg NoB w W) b (hb : At W b (cellsR (r, .slice am r.ms.length cm, .slice al r.ls.length cl)) 32) => rmay_rec b r _ _ W hb (hm0.no hW) (hl0.no hW) hml hll
  clear hm0 hl0 hml hll
  generalize rowB r = B at hmay ⊢
  obtain ⟨tx, state, first, last, undo, coord, ms, ls⟩ := r
  unfold rowV
  unfold cellsR recV recC at hmay
  simp only at *
  have hcb := (Chg.refl NoB w).alloc (.cells #[.int .i64 tx, .int .i64 state, .int .i64 first, .int .i64 last, .int .i64 undo, .int .i64 coord, .slice am ms.length cm, .slice al ls.length cl] 32)
  have hcb2 := hcb.alloc (.cells #[.int .i64 tx, .int .i64 state, .int .i64 first, .int .i64 last, .int .i64 undo, .int .i64 coord, .slice am ms.length cm, .slice al ls.length cl] 32)
  have hbox2 := At.new (w.alloc (.cells #[.int .i64 tx, .int .i64 state, .int .i64 first, .int .i64 last, .int .i64 undo, .int .i64 coord, .slice am ms.length cm, .slice al ls.length cl] 32)) [.int .i64 tx, .int .i64 state, .int .i64 first, .int .i64 last, .int .i64 undo, .int .i64 coord, .slice am ms.length cm, .slice al ls.length cl] 32
  rw [World.size_alloc] at hbox2
  have hmay' := hmay _ hcb2 _ hbox2
  clear hmay hbox2
  go_enter Try.func17, Try.ntmps17
  go_wp2_with (go_at_call 33; refine hmay'.mono ?_; clear hmay'; rintro e w2 ⟨rfl, hc2⟩)
  go_ret
  exact ⟨rfl, hcb2.trans hc2 (by simp [NoB])⟩
end Go.Proofs.Ytpjmamobiancdaa
