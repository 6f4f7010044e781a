/- The table of rows: the least first record. Conditions: numbers within int. -/
import Derived.Test.YtpjmamobiancdaaAl
import Derived.Test.YtpjmamobiancdaaRng
import Derived.Test.YtpjmamobiancdaaRow2
namespace Go.Proofs.Ytpjmamobiancdaa
open Go.RowKit Go.Maps Go.BigFrame
def lsStep (n : Int) (r : Rw) : Int := if 0 < r.first ∧ (n = 0 ∨ r.first < n) then r.first else n
def lsOf (l : List Rw) : Int := l.foldl lsStep 0
theorem lsStep_comm (n : Int) (a b : Rw) : lsStep (lsStep n a) b = lsStep (lsStep n b) a := by
  unfold lsStep
  repeat' split
  all_goals omega
theorem ls_perm {l l' : List Rw} (h : l.Perm l') : ∀ n, l.foldl lsStep n = l'.foldl lsStep n := by
  induction h with
  | nil => intro n; rfl
  | cons x _ ih => intro n; exact ih _
  | swap x y l => intro n; simp only [List.foldl_cons]; rw [lsStep_comm]
  | trans _ _ ih1 ih2 => intro n; rw [ih1, ih2]
theorem lsOf_snoc (l : List Rw) (r : Rw) : lsOf (l ++ [r]) = lsStep (lsOf l) r := by simp [lsOf]
theorem least_nil (w : World) : Calls Try.prog 15 #[.pointer none] w fun e w' => e = .returned (.int .i64 0) ∧ Chg NoB w w' := by
  go_enter Try.func15, Try.ntmps15
  go_wp2
  go_ret
  exact ⟨rfl, Chg.refl _ w⟩
set_option maxHeartbeats 2000000 in
theorem least_any (bt bm : Nat) (l : List (Int × X)) (w : World) (ht : TAt w bt bm l) :
    Calls Try.prog 15 #[.pointer (some ⟨bt, 0, none⟩)] w fun e w' => e = .returned (.int .i64 (lsOf (l.map (fun p => p.2.1)))) ∧ Chg NoB w w' := by
  have hm := ht.mp
  have ha := ht.hd
  have hnd := hm.nodup
  have hc := ha.cell 0 (v := .map (some bm)) rfl
  have hlt := ha.lt
  have hmlt := hm.lt
  go_enter Try.func15, Try.ntmps15
  go_wp2_with (first | (at_range; refine wpList_range hm Try.underlying57 rfl _ rfl rfl ?_; intro w1 hr1 hg1 hs1; go_frame) | fail)
  have hc1 : Chg NoB w w1 := (Chg.refl _ w).grown hg1 (by simp)
  go_loopw [3] (fun v wr => ∃ (vis todo : List (Int × X)), v = .int .i64 (lsOf (vis.map (fun p => p.2.1))) ∧ RangeAt Try.prog 3 encN valR wr bm w.heap.size l todo ∧ (vis ++ todo).Perm l ∧ Chg NoB w wr) (fun _ wr => wr.rangeLeft bm w.heap.size)
  case atStart => exact ⟨[], l, rfl, hr1, List.Perm.refl _, hc1⟩
  case round =>
    obtain ⟨vis, todo, rfl, hr, hp, hcw⟩ := hrel
    have hst : w.heap.size < wr.heap.size := hr.lt
    go_wp2_with (at_next; refine stop ?_)
    unfold Stop
    refine wpList_next hr encN_inj rfl _ rfl rfl ?_ ?_
    · intro hnil
      subst hnil
      rw [List.append_nil] at hp
      have hls : lsOf (vis.map (fun p => p.2.1)) = lsOf (l.map (fun p => p.2.1)) := ls_perm (hp.map _) 0
      have HL := Lib.hid hls
      clear hls
      go_wp2
      go_ret
      exact ⟨ret_i HL.out, hcw⟩
    · intro x a w2 hxa hr2 hg2 hs2 hen
      have hcw2 : Chg NoB w w2 := hcw.grown hg2 (by intro k hk hk2; cases hk; omega)
      have hR := (ht.no hcw).own (x, a) (hp.subset (List.mem_append_right _ hxa))
      have hperm : (vis ++ [(x, a)] ++ mdel todo x).Perm l := by
        refine List.Perm.trans ?_ hp
        rw [List.append_assoc]
        exact List.Perm.append_left _ (perm_mdel ((hnd.sublist (List.Sublist.map _ hr.2.1))) hxa)
      have hmeas : w2.rangeLeft bm w.heap.size < wr.rangeLeft bm w.heap.size := by
        rw [hr2.left_eq, hr.left_eq]
        have := (perm_mdel ((hnd.sublist (List.Sublist.map _ hr.2.1))) hxa).length_eq
        simp at this
        omega
      have HM := Lib.hid hmeas
      clear hmeas
      have hsn := lsOf_snoc (vis.map (fun p => p.2.1)) a.1
      have hmap : (vis ++ [(x, a)]).map (fun p => p.2.1) = vis.map (fun p => p.2.1) ++ [a.1] := by simp
      rw [← hmap] at hsn
      clear hmap
      generalize hN : lsOf (vis.map (fun p => p.2.1)) = N at hsn ⊢
      clear hN
      obtain ⟨⟨tx', state, first, last, undo, coord, ms, ls⟩, mv, lv⟩ := a
      obtain ⟨am, cm, al, cl, e1, e2⟩ := hR.shapes
      simp only at e1 e2
      subst e1
      subst e2
      unfold valR rowV at hen
      simp only [encN, lsStep] at hen hsn
      clear hR ht
      by_cases h1 : 0 < first
      · by_cases h2 : N = 0
        · rw [if_pos ⟨h1, .inl h2⟩] at hsn
          have HS := Lib.hid hsn
          clear hsn
          have hz : (N == 0) = true := by simpa using h2
          clear h2
          go_wp2_with fail
          refine ⟨⟨_, _, by rw [HS.out], hr2.alloc _, hperm, hcw2.alloc _⟩, ?_⟩
          rw [(hr2.alloc _).left_eq, ← hr2.left_eq]
          exact HM.out
        · have hz : (N == 0) = false := by simpa using h2
          by_cases h3 : first < N
          · rw [if_pos ⟨h1, .inr h3⟩] at hsn
            have HS := Lib.hid hsn
            clear hsn h2
            go_wp2_with fail
            refine ⟨⟨_, _, by rw [HS.out], hr2.alloc _, hperm, hcw2.alloc _⟩, ?_⟩
            rw [(hr2.alloc _).left_eq, ← hr2.left_eq]
            exact HM.out
          · rw [if_neg (by omega)] at hsn
            have HS := Lib.hid hsn
            clear hsn h2
            go_wp2_with fail
            refine ⟨⟨_, _, by rw [HS.out], hr2.alloc _, hperm, hcw2.alloc _⟩, ?_⟩
            rw [(hr2.alloc _).left_eq, ← hr2.left_eq]
            exact HM.out
      · rw [if_neg (by omega)] at hsn
        have HS := Lib.hid hsn
        clear hsn
        go_wp2_with fail
        refine ⟨⟨_, _, by rw [HS.out], hr2.alloc _, hperm, hcw2.alloc _⟩, ?_⟩
        rw [(hr2.alloc _).left_eq, ← hr2.left_eq]
        exact HM.out
end Go.Proofs.Ytpjmamobiancdaa
