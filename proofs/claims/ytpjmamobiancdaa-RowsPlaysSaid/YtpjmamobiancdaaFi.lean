/- The reference's table of rows: where one stands. Conditions: at most 2^40 rows. -/
import Derived.Test.YtpjmamobiancdaaAl
namespace Go.Proofs.Ytpjmamobiancdaa
open Go.RowKit Go.Maps Go.BigFrame
/-- The reference's table: its one field holds the rows. -/
structure RAt (w : World) (base bR : Nat) (v : Value) (L : List X) : Prop where
  hd : At w bR [v] 47
  row : XRow w base v L
  own : ∀ x ∈ L, RHas w 0 x
theorem RAt.no {w w' : World} {base bR : Nat} {v : Value} {L : List X} (h : RAt w base bR v L) (c : Chg NoB w w') : RAt w' base bR v L :=
  ⟨h.hd.chg c (by simp [NoB]), h.row.chg c (by simp [NoB]), fun x hx => (h.own x hx).no c⟩
/-- Where one stands: how many come first. -/
def findI : List Rw → Int → Nat
  | [], _ => 0
  | r :: l, n => if r.tx < n then findI l n + 1 else 0
def thereB (l : List Rw) (n : Int) : Bool := match l[findI l n]? with | some r => r.tx == n | none => false
theorem findI_le (l : List Rw) (n : Int) : findI l n ≤ l.length := by
  induction l with
  | nil => simp [findI]
  | cons a l ih => unfold findI; split <;> simp <;> omega
theorem findI_yes {l : List Rw} {n : Int} {r : Rw} {k : Nat} (hk : k ≤ findI l n) (hr : l[k]? = some r) (h : r.tx < n) : k + 1 ≤ findI l n := by
  induction l generalizing k with
  | nil => simp at hr
  | cons b l ih =>
    cases k with
    | zero => simp at hr; subst hr; unfold findI; rw [if_pos h]; omega
    | succ k =>
      unfold findI at hk ⊢
      split
      · rename_i hb
        rw [if_pos hb] at hk
        have := ih (k := k) (by omega) (by simpa using hr)
        omega
      · rename_i hb
        rw [if_neg hb] at hk
        omega
theorem findI_no {l : List Rw} {n : Int} {r : Rw} {k : Nat} (hk : k ≤ findI l n) (hr : l[k]? = some r) (h : ¬ r.tx < n) : findI l n = k := by
  induction l generalizing k with
  | nil => simp at hr
  | cons b l ih =>
    cases k with
    | zero => simp at hr; subst hr; unfold findI; rw [if_neg h]
    | succ k =>
      unfold findI at hk ⊢
      split
      · rename_i hb
        rw [if_pos hb] at hk
        rw [ih (k := k) (by omega) (by simpa using hr)]
      · rename_i hb
        rw [if_neg hb] at hk
        omega
set_option maxHeartbeats 2000000 in
set_option maxRecDepth 100000 in
theorem find_any (base bR : Nat) (v : Value) (L : List X) (n : Int) (w : World) (hr : RAt w base bR v L) (hl : L.length ≤ 1099511627776) :
    Calls Try.prog 35 #[.pointer (some ⟨bR, 0, none⟩), .int .i64 n] w fun e w' =>
      e = .returned (.tuple #[.int .i64 (findI (L.map (·.1)) n), .bool (thereB (L.map (·.1)) n)]) ∧ Chg NoB w w' := by
  have HT : Hid (thereB (L.map (·.1)) n = match (L.map (·.1))[findI (L.map (·.1)) n]? with | some r => r.tx == n | none => false) := rfl
  have hfl := findI_le (L.map (·.1)) n
  rw [List.length_map] at hfl
  have hyes := fun (k : Nat) r => findI_yes (l := L.map (·.1)) (n := n) (r := r) (k := k)
  have hno := fun (k : Nat) r => findI_no (l := L.map (·.1)) (n := n) (r := r) (k := k)
  have hget : ∀ (k : Nat) x, L[k]? = some x → (L.map (·.1))[k]? = some x.1 := fun k x h => by rw [List.getElem?_map, h]; rfl
  have hend : (L.map (·.1))[L.length]? = none := by rw [List.getElem?_eq_none]; simp
  generalize thereB (L.map (·.1)) n = T at HT ⊢
  generalize findI (L.map (·.1)) n = F at *
  generalize L.map (·.1) = m at *
  have hlt := hr.hd.lt
  go_enter Try.func35, Try.ntmps35
  go_wp2
  go_loopw [6] (fun i wr => ∃ k : Nat, i = .int .i64 k ∧ k ≤ F ∧ Chg NoB w wr) (fun i _ => L.length + 1 - (intOf i).toNat)
  case atStart => exact ⟨0, rfl, Nat.zero_le _, Chg.refl _ w⟩
  case round =>
    obtain ⟨k, rfl, hk, hcw⟩ := hrel
    have hrw := hr.no hcw
    have c0 := hrw.hd.cell 0 rfl
    by_cases hlt' : k < L.length
    · obtain ⟨x, hx⟩ : ∃ x, L[k]? = some x := ⟨L[k], List.getElem?_eq_getElem hlt'⟩
      have hl1 : ((k : Int) < (L.length : Int)) := by omega
      have hd1 : decide ((k : Int) < (L.length : Int)) = true := by simpa using hl1
      have hi1 : (0 : Int) ≤ (k : Int) := by omega
      obtain ⟨g, cap, rfl, _, _, _⟩ := xrow_some hr.row hlt'
      have q0 := (xrow_cells hrw.row hx).1
      by_cases hless : x.1.tx < n
      · have hk1 := hyes k x.1 hk (hget k x hx) hless
        have hd2 : decide (x.1.tx < n) = true := by simpa using hless
        clear hyes hno hget hend HT hless
        go_wp2
        exact ⟨⟨k + 1, by go_num, hk1, hcw⟩, by simp [intOf]; omega⟩
      · have hF := hno k x.1 hk (hget k x hx) (by omega)
        have hd2 : decide (x.1.tx < n) = false := by simpa using hless
        have hT : T = (x.1.tx == n) := by rw [HT.out, hF, hget k x hx]
        subst hF
        clear hyes hno hget hend HT hless
        have y0 := fun p : WIn wr => p.cell c0
        have y1 := fun p : WIn wr => p.cell q0
        by_cases he : x.1.tx = n
        · have hd3 : (x.1.tx == n) = true := by simpa using he
          rw [hd3] at hT
          subst hT
          clear he
          go_upto_region 4 with (fail)
          refine wp_region_in _ (Chg.refl _ _) (by kernel_rfl) (by kernel_rfl) ?_
          repeat (go_big_quiet_step (fail))
          refine wpQuiet_nil ?_
          rintro _ ⟨⟨W2, hW2⟩, rfl⟩
          go_wp2
          exact bodyPost_ret (v := .tuple #[.int .i64 F, .bool true]) (by simp [results, Try.results35, go_sem]) rfl ⟨rfl, hcw.trans hW2 (by simp [NoB])⟩
        · have hd3 : (x.1.tx == n) = false := by simpa using he
          rw [hd3] at hT
          subst hT
          clear he
          go_upto_region 4 with (fail)
          refine wp_region_in _ (Chg.refl _ _) (by kernel_rfl) (by kernel_rfl) ?_
          repeat (go_big_quiet_step (fail))
          refine wpQuiet_nil ?_
          rintro _ ⟨⟨W2, hW2⟩, rfl⟩
          go_wp2
          exact bodyPost_ret (v := .tuple #[.int .i64 F, .bool false]) (by simp [results, Try.results35, go_sem]) rfl ⟨rfl, hcw.trans hW2 (by simp [NoB])⟩
    · obtain rfl : k = L.length := by omega
      obtain rfl : F = L.length := by omega
      have hT : T = false := by rw [HT.out, hend]
      subst hT
      have hd1 : decide ((L.length : Int) < (L.length : Int)) = false := by simp
      obtain ⟨ao, cap, rfl, _⟩ := hr.row.shape
      have y0 := fun p : WIn wr => p.cell c0
      clear hyes hno hget hend HT
      go_upto_region 4 with (fail)
      refine wp_region_in _ (Chg.refl _ _) (by kernel_rfl) (by kernel_rfl) ?_
      repeat (go_big_quiet_step (fail))
      refine wpQuiet_nil ?_
      rintro _ ⟨⟨W2, hW2⟩, rfl⟩
      go_wp2
      exact bodyPost_ret (v := .tuple #[.int .i64 L.length, .bool false]) (by simp [results, Try.results35, go_sem]) rfl ⟨rfl, hcw.trans hW2 (by simp [NoB])⟩
end Go.Proofs.Ytpjmamobiancdaa
