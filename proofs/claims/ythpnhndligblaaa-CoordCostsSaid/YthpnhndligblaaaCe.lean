/- The coordinator: which entry a message is for. Conditions: at most 2^40 numbers. -/
import Derived.Test.YthpnhndligblaaaCn
namespace Go.Proofs.Ythpnhndligblaaa
open Go.RowKit Go.Maps Go.BigFrame
set_option maxHeartbeats 1000000 in
theorem index_any (v : Value) (l : List Int) (x : Int) (w : World) (hv : Sees w cellsI v l) (hl : l.length ≤ 1099511627776) :
    Calls Try.prog 47 #[v, .int .i64 x] w fun e w' => ∃ i : Int, e = .returned (.int .i64 i) ∧ decide (0 ≤ i) = l.contains x ∧ w' = w := by
  have hno : x ∉ l.take l.length → decide ((0 : Int) ≤ -1) = l.contains x := fun h => by rw [List.take_length] at h; simp [h]
  have hye := fun (k : Nat) (h : l[k]? = some x) => show decide ((0 : Int) ≤ (k : Int)) = l.contains x by
    have := List.mem_of_getElem? h
    simp [this]
  generalize l.contains x = B at *
  obtain ⟨ao, cap, rfl⟩ := hv.shape
  go_enter Try.func47, Try.ntmps47
  go_wp2
  go_loopw [8] (fun i wr => wr = w ∧ ∃ k : Nat, i = .int .i64 k ∧ k ≤ l.length ∧ x ∉ l.take k) (fun i _ => l.length - (intOf i).toNat)
  case atStart => exact ⟨rfl, 0, rfl, Nat.zero_le _, by simp⟩
  case round =>
    obtain ⟨hww, k, rfl, hk, hnot⟩ := hrel
    subst wr
    by_cases hlt' : k < l.length
    · obtain ⟨y, hy⟩ : ∃ x, l[k]? = some x := ⟨l[k], List.getElem?_eq_getElem hlt'⟩
      have hl1 : ((k : Int) < (l.length : Int)) := by omega
      have hi1 : (0 : Int) ≤ (k : Int) := by omega
      obtain ⟨ad, c', hvv, q0⟩ := hv.at_one cellsI_len hy rfl
      cases hvv
      by_cases hxy : x = y
      · subst hxy
        have hres := hye k hy
        have HR := Lib.hid hres
        clear hres hye hno
        go_wp2
        go_ret
        exact ⟨_, rfl, HR.out, rfl⟩
      · have hz : (x == y) = false := by simpa using hxy
        have htk : x ∉ l.take (k + 1) := by
          rw [List.take_add_one, hy]
          simp only [Option.toList_some, List.mem_append, List.mem_singleton, not_or]
          exact ⟨hnot, hxy⟩
        have HT := Lib.hid htk
        clear hye hno hnot htk
        go_wp2
        exact ⟨⟨by trivial, k + 1, by go_num, by omega, HT.out⟩, by simp [intOf]; omega⟩
    · obtain rfl : k = l.length := by omega
      have hd1 : decide ((l.length : Int) < (l.length : Int)) = false := by simp
      have hres := hno hnot
      have HR := Lib.hid hres
      clear hye hno hnot hres
      go_wp2
      go_ret
      exact ⟨_, rfl, HR.out, rfl⟩
theorem contains_any (v : Value) (l : List Int) (x : Int) (w : World) (hv : Sees w cellsI v l) (hl : l.length ≤ 1099511627776) :
    Calls Try.prog 37 #[v, .int .i64 x] w fun e w' => e = .returned (.bool (l.contains x)) ∧ Chg NoB w w' := by
  have hi := index_any v l x w hv hl
  go_enter Try.func37, Try.ntmps37
  go_wp2_with (first | (go_at_call 47; refine hi.mono ?_; clear hi; rintro e w1 ⟨i, rfl, hB, hw⟩; subst w1) | fail)
  go_ret
  exact ⟨ret_b (by first | exact hB | simp), Chg.refl _ _⟩
def heardB (me : Int) (m : Mg) (ks : List Int) : Bool := mayM m && (m.dst == me) && ks.contains m.kind
theorem mayM_tx {m : Mg} (h : mayM m = true) : I64 m.tx := by
  simp only [mayM, decB, seqB, Bool.and_eq_true, decide_eq_true_eq] at h
  unfold I64
  omega
theorem heard_nil (m : Mg) (mv kv : Value) (w : World) : Calls Try.prog 25 #[.pointer none, msgV m mv, kv] w fun e w' => e = .returned (.pointer none) ∧ Chg NoB w w' := by
  obtain ⟨kind, frm, dst, tx, ms⟩ := m
  unfold msgV
  simp only
  go_enter Try.func25, Try.ntmps25
  go_upto_region 1 with (fail)
  refine wp_region_in _ ((Chg.refl NoB w).alloc _) (by kernel_rfl) (by kernel_rfl) ?_
  repeat (go_big_quiet_step (fail))
  refine wpQuiet_nil ?_
  rintro _ ⟨⟨W2, hW2⟩, rfl⟩
  go_wp2
  go_ret
  exact ⟨rfl, hW2⟩
set_option maxHeartbeats 4000000 in
theorem heard_no (bc : Nat) (mp : Value) (me : Int) (w : World) (m : Mg) (mv kv : Value) (ks : List Int) (hd : At w bc [.int .i64 me, mp] 56) (hv : Sees w cellsI mv m.ms) (hl : m.ms.length ≤ 1099511627776) (hk : Sees w cellsI kv ks) (hkl : ks.length ≤ 1099511627776) (hB : heardB me m ks = false) :
    Calls Try.prog 25 #[.pointer (some ⟨bc, 0, none⟩), msgV m mv, kv] w fun e w' => e = .returned (.pointer none) ∧ Chg NoB w w' := by
  obtain ⟨ao, c, rfl⟩ := hv.shape
  have hmay := fun W (hW : Chg NoB w W) => msgmay_any m _ W (hv.no hW) hl
  have hcon := fun W (hW : Chg NoB w W) => contains_any kv ks m.kind W (hk.no hW) hkl
  unfold heardB at hB
  generalize mayM m = A at hmay hB
  generalize ks.contains m.kind = C at hcon hB
  obtain ⟨kind, frm, dst, tx, ms⟩ := m
  unfold msgV at hmay ⊢
  simp only at *
  go_enter Try.func25, Try.ntmps25
  go_upto_region 1 with (fail)
  have hbox := At.new w [.int .i64 kind, .int .i64 frm, .int .i64 dst, .int .i64 tx, .slice ao ms.length c] 46
  have hcb := (Chg.refl NoB w).alloc (.cells #[.int .i64 kind, .int .i64 frm, .int .i64 dst, .int .i64 tx, .slice ao ms.length c] 46)
  change At (w.alloc (.cells #[.int .i64 kind, .int .i64 frm, .int .i64 dst, .int .i64 tx, .slice ao ms.length c] 46)) _ _ _ at hbox
  generalize w.alloc (.cells #[.int .i64 kind, .int .i64 frm, .int .i64 dst, .int .i64 tx, .slice ao ms.length c] 46) = w1 at *
  have hdw := hd.chg hcb (by simp [NoB])
  have hlt1 := hbox.lt
  have hlt2 := hdw.lt
  have y0 := fun p : WIn w1 => p.cell (hdw.cell 0 rfl)
  have x0 := fun p : WIn w1 => p.cell (hbox.cell 0 rfl)
  have x1 := fun p : WIn w1 => p.cell (hbox.cell 1 rfl)
  have x2 := fun p : WIn w1 => p.cell (hbox.cell 2 rfl)
  have x3 := fun p : WIn w1 => p.cell (hbox.cell 3 rfl)
  have x4 := fun p : WIn w1 => p.cell (hbox.cell 4 rfl)
  have m1 := fun p : WIn w1 => hmay p.w (hcb.trans p.h (by simp [NoB]))
  have m2 := fun p : WIn w1 => hcon p.w (hcb.trans p.h (by simp [NoB]))
  clear hmay hcon hd hdw hbox
  cases A with
  | false =>
    refine wp_region_in w1 (Chg.refl _ _) (by kernel_rfl) (by kernel_rfl) ?_
    repeat (go_big_quiet_step (exact Calls.in_of (m1 _)))
    refine wpQuiet_nil ?_
    rintro _ ⟨⟨W2, hW2⟩, rfl⟩
    go_wp2
    go_ret
    exact ⟨rfl, hcb.trans hW2 (by simp [NoB])⟩
  | true =>
    cases hD : (dst == me) with
    | false =>
      have hD2 : (dst != me) = true := by simp [bne, hD]
      refine wp_region_in w1 (Chg.refl _ _) (by kernel_rfl) (by kernel_rfl) ?_
      repeat (go_big_quiet_step (exact Calls.in_of (m1 _)))
      refine wpQuiet_nil ?_
      rintro _ ⟨⟨W2, hW2⟩, rfl⟩
      go_wp2
      go_ret
      exact ⟨rfl, hcb.trans hW2 (by simp [NoB])⟩
    | true =>
      have hD2 : (dst != me) = false := by simp [bne, hD]
      rw [hD] at hB
      simp only [Bool.true_and] at hB
      subst hB
      refine wp_region_in w1 (Chg.refl _ _) (by kernel_rfl) (by kernel_rfl) ?_
      repeat (go_big_quiet_step (first | exact Calls.in_of (m1 _) | exact Calls.in_of (m2 _)))
      refine wpQuiet_nil ?_
      rintro _ ⟨⟨W2, hW2⟩, rfl⟩
      go_wp2
      go_ret
      exact ⟨rfl, hcb.trans hW2 (by simp [NoB])⟩
set_option maxHeartbeats 4000000 in
theorem heard_yes (bc bm : Nat) (me : Int) (l : List Ep) (w : World) (h : CAt w bc bm me l) (m : Mg) (mv kv : Value) (ks : List Int) (hv : Sees w cellsI mv m.ms) (hl : m.ms.length ≤ 1099511627776) (hk : Sees w cellsI kv ks) (hkl : ks.length ≤ 1099511627776) (hB : heardB me m ks = true) :
    Calls Try.prog 25 #[.pointer (some ⟨bc, 0, none⟩), msgV m mv, kv] w fun e w' => e = .returned (ptr (mget (prs l) m.tx)) ∧ Chg NoB w w' := by
  obtain ⟨ao, c, rfl⟩ := hv.shape
  have hmay := fun W (hW : Chg NoB w W) => msgmay_any m _ W (hv.no hW) hl
  have hcon := fun W (hW : Chg NoB w W) => contains_any kv ks m.kind W (hk.no hW) hkl
  unfold heardB at hB
  simp only [Bool.and_eq_true] at hB
  obtain ⟨⟨hA, hD⟩, hC⟩ := hB
  have ht := mayM_tx hA
  have hL := fun W (hW : Chg NoB w W) => h.looked ht W (hW.block bm h.mp.lt (by simp [NoB]))
  generalize hX : ptr (mget (prs l) m.tx) = X at hL ⊢
  rw [hA] at hmay
  rw [hC] at hcon
  obtain ⟨kind, frm, dst, tx, ms⟩ := m
  unfold msgV at hmay ⊢
  simp only at *
  have hD2 : (dst != me) = false := by simp [bne, hD]
  go_enter Try.func25, Try.ntmps25
  go_upto_region 1 with (fail)
  have hbox := At.new w [.int .i64 kind, .int .i64 frm, .int .i64 dst, .int .i64 tx, .slice ao ms.length c] 46
  have hcb := (Chg.refl NoB w).alloc (.cells #[.int .i64 kind, .int .i64 frm, .int .i64 dst, .int .i64 tx, .slice ao ms.length c] 46)
  change At (w.alloc (.cells #[.int .i64 kind, .int .i64 frm, .int .i64 dst, .int .i64 tx, .slice ao ms.length c] 46)) _ _ _ at hbox
  generalize w.alloc (.cells #[.int .i64 kind, .int .i64 frm, .int .i64 dst, .int .i64 tx, .slice ao ms.length c] 46) = w1 at *
  have hdw := h.hd.chg hcb (by simp [NoB])
  have hlt1 := hbox.lt
  have hlt2 := hdw.lt
  have y0 := fun p : WIn w1 => p.cell (hdw.cell 0 rfl)
  have x0 := fun p : WIn w1 => p.cell (hbox.cell 0 rfl)
  have x1 := fun p : WIn w1 => p.cell (hbox.cell 1 rfl)
  have x2 := fun p : WIn w1 => p.cell (hbox.cell 2 rfl)
  have x3 := fun p : WIn w1 => p.cell (hbox.cell 3 rfl)
  have x4 := fun p : WIn w1 => p.cell (hbox.cell 4 rfl)
  have m1 := fun p : WIn w1 => hmay p.w (hcb.trans p.h (by simp [NoB]))
  have m2 := fun p : WIn w1 => hcon p.w (hcb.trans p.h (by simp [NoB]))
  clear hmay hcon h
  refine wp_region_in w1 (Chg.refl _ _) (by kernel_rfl) (by kernel_rfl) ?_
  repeat (go_big_quiet_step (first | exact Calls.in_of (m1 _) | exact Calls.in_of (m2 _)))
  refine wpQuiet_nil ?_
  rintro W2 ⟨⟨W2', hW2⟩, hh⟩
  change W2 = W2' at hh
  subst W2'
  have hcw := hcb.trans hW2 (by simp [NoB])
  have hl3 := fun p : WIn W2 => hL p.w (hcw.trans p.h (by simp [NoB]))
  have hd3 := hdw.chg hW2 (by simp [NoB])
  have hb3 := hbox.chg hW2 (by simp [NoB])
  have z1 := fun p : WIn W2 => p.cell (hd3.cell 1 rfl)
  have z3 := fun p : WIn W2 => p.cell (hb3.cell 3 rfl)
  have hlt3 := hb3.lt
  have hlt4 := hd3.lt
  clear x0 x1 x2 x3 x4 y0 m1 m2 hL hdw hbox hlt1 hlt2
  go_upto_region 3 with (fail)
  refine wp_region_in W2 (Chg.refl _ _) (by kernel_rfl) (by kernel_rfl) ?_
  repeat (go_big_quiet_step (fail))
  refine wpQuiet_nil ?_
  rintro _ ⟨⟨W3, hW3⟩, rfl⟩
  go_wp2
  go_ret
  exact ⟨rfl, hcw.trans hW3 (by simp [NoB])⟩
end Go.Proofs.Ythpnhndligblaaa
