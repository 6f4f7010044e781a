/- The timer's Due. Conditions: at most 1024 alarms. -/
import Derived.Test.YtgpholdeiahldaaTm3
import Derived.Test.YtgpholdeiahldaaRng
import Derived.Test.YtgpholdeiahldaaRow2
import Derived.Test.YtgpholdeiahldaaSrt3
import Derived.Test.YtgpholdeiahldaaRf2
namespace Go.Proofs.Ytgpholdeiahldaa
open Go.RowKit Go.Maps
theorem due_nil (now : Int) (w : World) : Calls Try.prog 14 #[.pointer none, .int .i64 now] w fun e w' => e = .returned (.slice none 0 0) ∧ w' = w := by
  go_enter Try.func14, Try.ntmps14
  go_wp2
  go_ret
  exact ⟨rfl, rfl⟩
/-- A table that can be: each alarm stands at its own key, within int; none was heard more than B times. -/
def Good (B : Int) (l : List (Key × Alarm)) : Prop := ∀ p ∈ l, p.1 = (p.2.tx, p.2.role) ∧ I64 p.2.tx ∧ I64 p.2.role ∧ I64 p.2.at_ ∧ 0 ≤ p.2.tries ∧ p.2.tries ≤ B
/-- Those that are due. -/
def dueL (l : List (Key × Alarm)) (now : Int) : List Alarm := (l.map (·.2)).filter (fun a => decide (a.at_ ≤ now))
theorem dueL_snoc (l : List (Key × Alarm)) (p : Key × Alarm) (now : Int) : dueL (l ++ [p]) now = dueL l now ++ (if p.2.at_ ≤ now then [p.2] else []) := by
  unfold dueL
  rw [List.map_append, List.filter_append]
  by_cases h : p.2.at_ ≤ now <;> simp [h]
theorem dueL_perm {l l' : List (Key × Alarm)} (h : l.Perm l') (now : Int) : (dueL l now).Perm (dueL l' now) := (h.map _).filter _
theorem dueL_len (l : List (Key × Alarm)) (now : Int) : (dueL l now).length ≤ l.length := by
  unfold dueL
  have := List.length_filter_le (fun a : Alarm => decide (a.at_ ≤ now)) (l.map (·.2))
  simpa using this
/-- What becomes of an alarm that is heard. -/
def upd (now : Int) (a : Alarm) : Alarm := ⟨a.tx, a.role, laterI now (delayI (a.tries + 1)), a.tries + 1⟩
def putAll (l : List (Key × Alarm)) (d : List Alarm) : List (Key × Alarm) := d.foldl (fun l a => mput l (a.tx, a.role) a) l
/-- The first k are heard. -/
def dl (d : List Alarm) (now : Int) (k : Nat) : List Alarm := (d.take k).map (upd now) ++ d.drop k
theorem dl_get {d : List Alarm} {now : Int} {k : Nat} {a : Alarm} (h : d[k]? = some a) : (dl d now k)[k]? = some a := by
  have hk := (List.getElem?_eq_some_iff.1 h).1
  unfold dl
  rw [List.getElem?_append_right (by simp; omega)]
  simp [Nat.min_eq_left (Nat.le_of_lt hk), h]
theorem dl_succ {d : List Alarm} {now : Int} {k : Nat} {a : Alarm} (h : d[k]? = some a) : (dl d now k).set k (upd now a) = dl d now (k + 1) := by
  have hk := (List.getElem?_eq_some_iff.1 h).1
  have ha := (List.getElem?_eq_some_iff.1 h).2
  unfold dl
  rw [List.set_append_right _ _ (by simp; omega), List.take_succ_eq_append_getElem hk, List.map_append, ha, List.append_assoc]
  congr 1
  have h1 : d.drop k = a :: d.drop (k + 1) := by rw [List.drop_eq_getElem_cons hk, ha]
  rw [h1]
  simp [Nat.min_eq_left (Nat.le_of_lt hk)]
theorem dl_zero (d : List Alarm) (now : Int) : dl d now 0 = d := by simp [dl]
theorem dl_all (d : List Alarm) (now : Int) : dl d now d.length = d.map (upd now) := by simp [dl]
theorem dl_len {d : List Alarm} {now : Int} {k : Nat} (h : k ≤ d.length) : (dl d now k).length = d.length := by simp [dl, Nat.min_eq_left h]; omega
theorem putAll_succ {l : List (Key × Alarm)} {d : List Alarm} {now : Int} {k : Nat} {a : Alarm} (h : d[k]? = some a) : mput (putAll l ((d.take k).map (upd now))) (a.tx, a.role) (upd now a) = putAll l ((d.take (k + 1)).map (upd now)) := by
  have hk := (List.getElem?_eq_some_iff.1 h).1
  have ha := (List.getElem?_eq_some_iff.1 h).2
  unfold putAll
  rw [List.take_succ_eq_append_getElem hk, List.map_append, List.foldl_append, ha]
  rfl
set_option maxHeartbeats 4000000 in
set_option maxRecDepth 100000 in
theorem due_any (hC : CmpIs 23 dueO) (B : Int) (hB : B ≤ 1099511627776) (bt bm : Nat) (l : List (Key × Alarm)) (now : Int) (w : World) (ht : TAt w bt bm l) (hg : Good B l) (hn : I64 now) (hlen : l.length ≤ 1024) :
    Calls Try.prog 14 #[.pointer (some ⟨bt, 0, none⟩), .int .i64 now] w fun e w' => ∃ (v : Value) (d : List Alarm), e = .returned v ∧ d.Perm (dueL l now) ∧ d.Pairwise (fun x y => lt3 (dueO y) (dueO x) = false) ∧ Row w' w.heap.size v (d.map (upd now)) ∧
      TAt w' bt bm (putAll l (d.map (upd now))) ∧ Chg (· = bm) w w' := by
  obtain ⟨ha, hm⟩ := ht
  have hnd := hm.nodup
  have hne := hm.ne_at ha
  have hc := ha.cell 0 (v := .map (some bm)) rfl
  have hlt := ha.lt
  have hmlt := hm.lt
  obtain ⟨i0, hi, hz0, hz1, hz2⟩ := info_parts info34
  go_enter Try.func14, Try.ntmps14
  go_wp2_with (first | (at_range; refine wpList_range hm Try.underlying50 rfl _ rfl rfl ?_; intro w1 hr1 hg1 hs1; go_frame) | fail)
  have hc1 : Chg NoB w w1 := (Chg.refl _ w).grown hg1 (by simp)
  go_loopw [5] (fun v wr => ∃ (vis todo : List (Key × Alarm)) (d : List Alarm), RangeAt Try.prog 54 encK encA wr bm w.heap.size l todo ∧ (vis ++ todo).Perm l ∧ Row wr (w.heap.size + 1) v d ∧ d = dueL vis now ∧ Chg NoB w wr) (fun _ wr => wr.rangeLeft bm w.heap.size)
  case atStart => exact ⟨[], l, [], hr1, List.Perm.refl _, RowOf.nil _ _, rfl, hc1⟩
  case round =>
    obtain ⟨vis, todo, d, hr, hp, hrow, rfl, hcw⟩ := hrel
    have hszw := hcw.size
    have hst : w.heap.size < wr.heap.size := hr.lt
    have hvl : vis.length ≤ l.length := by have := hp.length_eq; simp at this; omega
    have hdl := dueL_len vis now
    obtain ⟨ao, nn, cap, rfl⟩ := hrow.slice
    go_wp2_with (at_next; refine stop ?_)
    unfold Stop
    refine wpList_next hr encK_inj rfl _ rfl rfl ?_ ?_
    · intro hnil
      subst hnil
      rw [List.append_nil] at hp
      have hpd := dueL_perm hp now
      have HP := Lib.hid hpd
      clear hpd
      go_wp2_with (first | (go_at_call 22; refine (sorted_any 23 dueO hC (w.heap.size + 1) _ (dueL vis now) wr hrow (by omega)).mono ?_; clear hC; rintro e w3 ⟨rfl, d, hdp, hds, hrow3, hc3⟩; go_frame) | fail)
      have hlen3 : d.length = nn := by
        obtain ⟨ao', cap', hv, _⟩ := hrow3.shape
        cases hv
        rfl
      have hd1024 : d.length ≤ 1024 := by have := hdp.length_eq; omega
      have hcw3 : Chg NoB w w3 := hcw.trans hc3 (by intro j hj h; have := (hrow.ge j h).1; omega)
      have ht3 : TAt w3 bt bm l := ⟨ha.chg hcw3 (by simp [NoB]), hm.chg hcw3 (by simp [NoB])⟩
      subst hlen3
      clear hr hrow hc3
      go_loopw [33] (fun i wr => ∃ k : Nat, i = .int .i64 k ∧ k ≤ d.length ∧ Row wr (w.heap.size + 1) (.slice ao d.length cap) (dl d now k) ∧ TAt wr bt bm (putAll l ((d.take k).map (upd now))) ∧ Chg (· = bm) w wr) (fun i _ => d.length - (intOf i).toNat)
      case atStart => exact ⟨0, rfl, Nat.zero_le _, by rw [dl_zero]; exact hrow3, by simpa [putAll] using ht3, hcw3.mono (by simp [NoB])⟩
      case round =>
        have hn1 := hn; have hn2 := hB; obtain ⟨k, rfl, hk, hrw, ⟨haw, hmw⟩, hcx⟩ := hrel
        have hszx := hcx.size
        by_cases hlt' : k < d.length
        · obtain ⟨a, hak⟩ : ∃ a, d[k]? = some a := ⟨d[k], by simp [hlt']⟩
          have hgoodA : I64 a.tx ∧ I64 a.role ∧ I64 a.at_ ∧ 0 ≤ a.tries ∧ a.tries ≤ B := by
            have h1 : a ∈ dueL l now := by
              have := HP.out
              exact this.subset (hdp.subset (List.mem_of_getElem? hak))
            unfold dueL at h1
            obtain ⟨p, hp1, rfl⟩ := List.mem_map.1 (List.mem_filter.1 h1).1
            exact (hg p hp1).2
          obtain ⟨g1, g2, g3, g4, g5⟩ := hgoodA
          have hget := dl_get (now := now) hak
          have hsucc := dl_succ (now := now) hak
          have hput := putAll_succ (l := l) (now := now) hak
          generalize dl d now k = L at hrw hget hsucc
          generalize putAll l (List.map (upd now) (List.take k d)) = lm at hmw hput
          have HS := Lib.hid hsucc
          have HT := Lib.hid hput
          have HA := Lib.hid hak
          clear hsucc hput hak
          have hl1 : ((k : Int) < (d.length : Int)) := by omega
          have hd1 : decide ((k : Int) < (d.length : Int)) = true := by simpa using hl1
          have hi1 : (0 : Int) ≤ (k : Int) := by omega
          obtain ⟨g, cap', hv, hcap, hgb, hgl⟩ := row_some hrow3 hlt'
          simp only [Value.slice.injEq, true_and] at hv
          obtain ⟨rfl, rfl⟩ := hv
          have hwr : IntKind.i64.wrap (a.tries + 1) = a.tries + 1 := IntWalk.i64_in _ (by omega)
          obtain ⟨c1, c2, c3, c4⟩ := row_cells hrw hget
          have hgw : g < wr.heap.size := hrw.ge g rfl |>.2
          have hf3 := hrw.frozen (k * 4 + 3)
          have hf2 := hrw.frozen (k * 4 + 2)
          have hdp1 := (delayI_pow (a.tries + 1)).bd
          obtain ⟨dv, hdv⟩ : ∃ dv, delayI (a.tries + 1) = dv := ⟨_, rfl⟩
          have hdc := fun W => delay_any (a.tries + 1) W (by omega)
          simp only [hdv] at hdc hdp1
          have hlc := fun W => later_any now dv W hn1 (by omega) (by omega)
          obtain ⟨lv, hlv⟩ : ∃ lv, laterI now dv = lv := ⟨_, rfl⟩
          simp only [hlv] at hlc
          have HU : Hid (upd now a = ⟨a.tx, a.role, lv, a.tries + 1⟩) := Lib.hid (by unfold upd; rw [hdv, hlv])
          clear hdv hlv
          go_wp2_with (first | (go_at_call 8; refine (hdc _).mono ?_; rintro e w' ⟨rfl, rfl⟩; go_frame) | (go_at_call 24; refine (hlc _).mono ?_; rintro e w' ⟨rfl, rfl⟩; go_frame) | fail)
          have hs1 := hrw.setCell cellsA_len (i := 3) (a' := ⟨a.tx, a.role, a.at_, a.tries + 1⟩) (u := .int .i64 (a.tries + 1)) hget (by omega) rfl
          have hget1 : (L.set k ⟨a.tx, a.role, a.at_, a.tries + 1⟩)[k]? = some ⟨a.tx, a.role, a.at_, a.tries + 1⟩ := List.getElem?_set_self (List.getElem?_eq_some_iff.1 hget).1
          have hs2 := hs1.setCell cellsA_len (i := 2) (a' := ⟨a.tx, a.role, lv, a.tries + 1⟩) (u := .int .i64 lv) hget1 (by omega) rfl
          rw [List.set_set] at hs2
          have hget2 : (L.set k ⟨a.tx, a.role, lv, a.tries + 1⟩)[k]? = some ⟨a.tx, a.role, lv, a.tries + 1⟩ := List.getElem?_set_self (List.getElem?_eq_some_iff.1 hget).1
          have hkey := key_lit (p := (a.tx, a.role)) g1 g2
          refine wp_tail_quiet 16 (by kernel_rfl) (by kernel_rfl) (fun W => Row W (w.heap.size + 1) (.slice (some ⟨g, 0, none⟩) d.length cap) (L.set k ⟨a.tx, a.role, lv, a.tries + 1⟩) ∧ TAt W bt bm lm ∧ Chg (· = bm) w W)
            ⟨hs2.drew, ⟨((haw.setCell_other (by simp; omega) _).setCell_other (by simp; omega) _).drew, ((hmw.setCell (by simp; omega) _).setCell (by simp; omega) _).drew⟩, ((hcx.setCell (by simp; omega) _).setCell (by simp; omega) _).drew⟩ ?_
          clear hs1 hs2 haw hmw hcx c1 c2 c3 c4
          rintro W ⟨hrW, ⟨haW, hmW⟩, hcW⟩
          have hcell := haW.cell 0 rfl
          obtain ⟨c1, c2, c3, c4⟩ := row_cells hrW hget2
          simp only at c1 c2 c3 c4
          simp only [List.take_succ_cons, List.take_zero, List.drop_succ_cons, List.drop_zero]
          repeat (go_big_quiet_step (fail))
          refine wpQuiet_nil ?_
          show wpList _ _ _ _ _ _
          refine wpList_store hmW law54 encK_inj Try.underlying50 rfl _ _ _ rfl rfl (a.tx, a.role) rfl ⟨a.tx, a.role, lv, a.tries + 1⟩ rfl hkey ?_
          intro W2 hm2 hg2
          go_wp2_with fail
          go_roundw
          case rel =>
            refine ⟨k + 1, by go_num, by omega, ?_, ⟨haW.grown hg2 (by simpa using hne), ?_⟩, hcW.grown hg2 (by simp)⟩
            · rw [← HS.out, HU.out]
              exact hrW.grown hg2 (by intro j hj h; have := (hrW.ge j hj).1; cases h; omega)
            · rw [← HT.out, HU.out]
              exact hm2
          case measure => simp [intOf]; omega
        · have hkd : k = d.length := by omega
          subst hkd
          have hd1 : decide ((d.length : Int) < (d.length : Int)) = false := by simp
          rw [dl_all] at hrw
          rw [List.take_length] at hmw
          go_wp2_with fail
          go_ret
          refine ⟨_, d, rfl, hdp.trans HP.out, hds, hrw.mono (by omega), ⟨haw, hmw⟩, hcx⟩
    · intro x a w2 hxa hr2 hg2 hs2 hen
      have hcw2 : Chg NoB w w2 := hcw.grown hg2 (by intro k hk hk2; cases hk; omega)
      have hrow2 := hrow.grown hg2 (by intro g hg; have := (hrow.ge g hg).1; intro h; cases h; omega)
      have hmem : (x, a) ∈ l := hp.subset (List.mem_append_right _ hxa)
      have hperm : (vis ++ [(x, a)] ++ mdel todo x).Perm l := by
        refine List.Perm.trans ?_ hp
        rw [List.append_assoc]
        exact List.Perm.append_left _ (perm_mdel ((hnd.sublist (List.Sublist.map _ hr.2.1))) hxa)
      have hsn := dueL_snoc vis (x, a) now
      have hlen2 : (dueL vis now).length ≤ 1024 := by omega
      have hmeas : w2.rangeLeft bm w.heap.size < wr.rangeLeft bm w.heap.size := by
        rw [hr2.left_eq, hr.left_eq]
        have := (perm_mdel ((hnd.sublist (List.Sublist.map _ hr.2.1))) hxa).length_eq
        simp at this
        omega
      have HM := Lib.hid hmeas
      clear hmeas
      obtain ⟨a1, a2, a3, a4⟩ := a
      simp only [encA] at hen
      by_cases hle : a3 ≤ now
      · simp only [hle, if_true] at hsn
        have HS := Lib.hid hsn
        clear hsn
        go_wp2_with (at_builtin; refine stop ?_)
        unfold Stop
        refine wpList_app ((hrow2.alloc _).alloc _) (SrcOf.one (a := ⟨a1, a2, a3, a4⟩) (At.newAt ?_)) cellsA_len cellsA_one (by decide) 31 i0 _ 32 Try.underlying31 hi hz0 hz1 hz2 rfl rfl _ _ rfl rfl rfl ?_ ?_ ?_ ?_
        · simp; omega
        · simp [maxLen]; omega
        · omega
        · simp; omega
        · intro v' w3 hrow3 hg3 _
          have hr3 := ((hr2.alloc (.cells #[.int .i64 a1, .int .i64 a2, .int .i64 a3, .int .i64 a4] 34)).alloc _).grown hg3 (by intro h; have := (hrow2.ge _ h).1; omega) (by intro h; have := (hrow2.ge _ h).1; omega)
          go_wp2_with fail
          go_roundw
          case rel =>
            exact ⟨_, _, _, hr3, hperm, hrow3, by rw [HS.out], ((hcw2.alloc _).alloc _).grown hg3 (by intro k hk hk2; have := (hrow2.ge k hk).1; omega)⟩
          case measure =>
            rw [hr3.left_eq, ← hr2.left_eq]
            exact HM.out
      · simp only [hle, if_false, List.append_nil] at hsn
        have HS := Lib.hid hsn
        clear hsn
        go_wp2_with fail
        refine ⟨⟨_, _, _, hr2.alloc _, hperm, hrow2.alloc _, by rw [HS.out], hcw2.alloc _⟩, ?_⟩
        rw [(hr2.alloc _).left_eq, ← hr2.left_eq]
        exact HM.out
end Go.Proofs.Ytgpholdeiahldaa
