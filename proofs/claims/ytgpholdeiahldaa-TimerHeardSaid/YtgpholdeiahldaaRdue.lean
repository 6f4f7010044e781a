/- The reference's Due. Conditions: at most 1024 alarms. -/
import Derived.Test.YtgpholdeiahldaaPk
import Derived.Test.YtgpholdeiahldaaRow3
import Derived.Test.YtgpholdeiahldaaRd
namespace Go.Proofs.Ytgpholdeiahldaa
open Go.RowKit Go.Maps
theorem info4 : (Try.prog.info? 4).map (fun i => (i.zero, i.size, i.bytes)) = some (some (.bool false), 1, 1) := by kernel_rfl
def lenOf : Value → Nat | .slice _ n _ => n | _ => 0
set_option maxHeartbeats 4000000 in
set_option maxRecDepth 100000 in
theorem rdue_any (B : Int) (hB : B ≤ 1099511627776) (bR : Nat) (v : Value) (L : List Alarm) (now : Int) (w : World) (hr : RAt w bR v L) (hg : ∀ a ∈ L, 0 ≤ a.tries ∧ a.tries ≤ B) (hn : I64 now) (hl : L.length ≤ 1024) :
    Calls Try.prog 21 #[.pointer (some ⟨bR, 0, none⟩), .int .i64 now] w fun e w' => ∃ (vo : Value) (is : List Nat), e = .returned vo ∧ Picked L now is ∧ (∀ j a, L[j]? = some a → a.at_ ≤ now → j ∈ is) ∧
      Row w' w.heap.size vo ((is.map (getA L)).map (upd now)) ∧ RAt w' bR v (nowL L now is) ∧ Chg (fun b => v.ownBlock = some b) w w' := by
  obtain ⟨ha, hrow⟩ := hr
  have hc := ha.cell 0 rfl
  have hlt := ha.lt
  have hvb : v.ownBlock ≠ some bR := hrow.apart_at ha (by decide)
  have hvl := hrow.ge
  obtain ⟨ib, hib, hzb0, hzb1, hzb2⟩ := info_parts info4
  obtain ⟨i0, hi, hz0, hz1, hz2⟩ := info_parts info34
  obtain ⟨ao, cap, rfl, hcap, hnil, hsome⟩ := hrow.shape
  go_enter Try.func21, Try.ntmps21
  go_wp2_with (refine wpList_make1 (val := cellsB) (w := w) rfl _ _ 66 rfl w.heap.size 4 ib (.bool false) false rfl rfl Try.underlying66 hib hzb0 hzb1 .i64 .i64 _ _ L.length rfl rfl rfl rfl (by rw [hzb2]; omega) (by simp [maxLen]; omega) (Nat.le_refl _) ?_; intro w1 hh1 hg1; go_frame)
  have hc1 : Chg (fun b => (Value.slice ao L.length cap).ownBlock = some b) w w1 := (Chg.refl _ w).grown hg1 (by simp)
  have hrow1 := hrow.grown hg1 (by simp)
  have ha1 := ha.grown hg1 (by simp)
  rw [← heardL_nil] at hh1
  clear hc hnil hsome hg1
  go_loopw [6] (fun o wr => ∃ is, Picked L now is ∧ Row wr w.heap.size o ((is.map (getA L)).map (upd now)) ∧ BRow wr w.heap.size (.slice (some ⟨w.heap.size, 0, none⟩) L.length L.length) (heardL L.length is) ∧ RAt wr bR (.slice ao L.length cap) (nowL L now is) ∧
      Chg (fun b => (Value.slice ao L.length cap).ownBlock = some b) w wr) (fun o _ => L.length - lenOf o)
  case atStart => exact ⟨[], Picked.nil L now, RowOf.nil _ _, hh1, by rw [nowL_nil]; exact ⟨ha1, hrow1⟩, hc1⟩
  case round =>
    obtain ⟨is, hpk, hro, hhe, hR, hcw⟩ := hrel
    obtain ⟨oo, co, rfl, hoc, _, _⟩ := hro.shape
    rw [List.length_map, List.length_map] at hro hoc
    have hfirst := first_any bR (.slice ao L.length cap) (nowL L now is) w.heap.size w.heap.size L.length (heardL L.length is) now wr hR (by rw [nowL_len]; exact hhe) (by rw [heardL_len, nowL_len]) (by rw [nowL_len]; omega)
    rw [nowL_len] at hfirst
    clear hrow hrow1 ha ha1 hh1 hc1
    go_wp2_with (first | (go_at_call 29; refine hfirst.mono ?_; clear hfirst; rintro e w2 ⟨z, rfl, hbest, hc2⟩; refine stop ?_) | fail)
    unfold Stop
    have hcw2 := hcw.trans hc2 (by simp [NoB])
    rcases hbest.cases with rfl | ⟨i, a', hil, rfl, hai'⟩
    · go_wp2_with fail
      go_ret
      have hall := Picked.all (L := L) (is := is) (by rw [nowL_len]; exact hbest)
      exact ⟨_, is, rfl, hpk, hall, hro.chg hc2 (by simp [NoB]), ⟨hR.1.chg hc2 (by simp [NoB]), hR.2.chg hc2 (by simp [NoB])⟩, hcw2⟩
    · obtain ⟨a, hai, hni, han, hpk2⟩ := hpk.step (by rw [nowL_len]; exact hbest)
      obtain rfl : a = a' := Option.some.inj ((nowL_get hai hni).symm.trans hai')
      have hga := hg a (List.mem_of_getElem? hai)
      obtain ⟨g1, g2⟩ := hga
      have hlenp := hpk2.len
      simp only [List.length_append, List.length_cons, List.length_nil] at hlenp
      have hhe2 := hhe.chg hc2 (by simp [NoB])
      have hro2 := hro.chg hc2 (by simp [NoB])
      have haR2 := hR.1.chg hc2 (by simp [NoB])
      have hrow2 := hR.2.chg hc2 (by simp [NoB])
      have hil2 : i < (nowL L now is).length := by rw [nowL_len]; exact hil
      obtain ⟨g, cap', hv, hcap', hgb, hgl⟩ := row_some hR.2 hil2
      rw [nowL_len] at hv
      simp only [Value.slice.injEq, true_and] at hv
      obtain ⟨rfl, rfl⟩ := hv
      have hgw := (hvl g rfl).2
      obtain ⟨c1, c2, c3, c4⟩ := row_cells hrow2 hai'
      have hcR := haR2.cell 0 rfl
      have hsz2 := hcw2.size
      have hi1 : (0 : Int) ≤ (i : Int) := by omega
      have hi2 : (i : Int) < (L.length : Int) := by omega
      have hfh := hhe2.frozen i
      have hhi : (heardL L.length is)[i]? = some false := by unfold heardL; rw [List.getElem?_map, List.getElem?_range hil]; simp [hni]
      have hq := hhe2.cell0 cellsB_len hhi rfl
      rw [Nat.mul_one] at hq
      have hwr : IntKind.i64.wrap (a.tries + 1) = a.tries + 1 := IntWalk.i64_in _ (by omega)
      have hne1 : ¬ bR = w.heap.size := by omega
      have hne2 : ¬ g = w.heap.size := by omega
      have hsz3 : w.heap.size < w2.heap.size := (hhe2.ge _ rfl).2
      have hne3 : ¬ w2.heap.size = w.heap.size := by omega
      have hne4 : ¬ bR = w2.heap.size := by omega
      have hne5 : ¬ g = w2.heap.size := by omega
      have hdp1 := (delayI_pow (a.tries + 1)).bd
      obtain ⟨dv, hdv⟩ : ∃ dv, delayI (a.tries + 1) = dv := ⟨_, rfl⟩
      have hdc := fun W => rdelay_any (a.tries + 1) W (by omega)
      simp only [hdv] at hdc hdp1
      unfold I64 at hn
      obtain ⟨lv, hlv⟩ : ∃ lv, laterI now dv = lv := ⟨_, rfl⟩
      have HU : Hid (upd now a = ⟨a.tx, a.role, lv, a.tries + 1⟩) := Lib.hid (by unfold upd; rw [hdv, hlv])
      have hE1 : 1099511627712 < now → min 1099511627776 (min now 1099511627776 + dv) = lv := by rw [← hlv]; unfold laterI; omega
      have hE2 : now ≤ 1099511627712 → min now 1099511627712 + dv = lv := by rw [← hlv]; unfold laterI; omega
      have HE1 := Lib.hid hE1
      have HE2 := Lib.hid hE2
      have HA := Lib.hid hai
      have HB := Lib.hid hni
      have HC := Lib.hid hai'
      have HD := Lib.hid hhi
      clear hE1 hE2 hlv hdv hai hai' hni hhi hbest
      rcases Int.lt_or_le 1099511627712 now with hbig | hbig
      all_goals
        first
          | (have hd5 : decide (1099511627712 < now) = true := by simpa using hbig)
          | (have hd5 : decide (1099511627712 < now) = false := by simp; omega)
        go_wp2_with (first | (go_at_call 9; refine (hdc _).mono ?_; rintro e w' ⟨rfl, rfl⟩; go_frame) | fail)
        first | rw [HE1.out hbig] | rw [HE2.out hbig]
        clear hd5 hdc hq hfh c1 c2 c3 c4 hcR
        refine wp_tail_quiet 7 (by kernel_rfl) (by kernel_rfl) (fun W => BRow W w.heap.size (.slice (some ⟨w.heap.size, 0, none⟩) L.length L.length) (heardL L.length (is ++ [i])) ∧ Row W w.heap.size (.slice oo is.length co) ((is.map (getA L)).map (upd now)) ∧
          At W bR [.slice (some ⟨g, 0, none⟩) L.length cap] 40 ∧ Row W 0 (.slice (some ⟨g, 0, none⟩) L.length cap) (nowL L now is) ∧ At W w2.heap.size [.int .i64 a.tx, .int .i64 a.role, .int .i64 lv, .int .i64 (a.tries + 1)] 34 ∧
          Chg (fun b => (Value.slice (some ⟨g, 0, none⟩) L.length cap).ownBlock = some b) w W) ?_ ?_
        · have hS : Chg (· = w.heap.size) w2 (w2.setCell ⟨w.heap.size, i, none⟩ (.bool true)) := (Chg.refl (fun x => x = w.heap.size) w2).setCell (p := ⟨w.heap.size, i, none⟩) (fun _ => rfl) _
          have hb1 := hhe2.setCell cellsB_len (i := 0) (a' := true) (u := .bool true) HD.out (by omega) rfl
          rw [heardL_set is hil, Nat.mul_one, Nat.add_zero] at hb1
          have ho1 := hro2.chg hS (fun g' hg' e => by subst e; exact hro2.apart hhe2 (by decide) _ hg' rfl)
          have hr1 := hrow2.chg hS (fun g' hg' e => by cases hg'; exact hne2 e)
          exact ⟨(hb1.alloc _).drew, (ho1.alloc _).drew, ((haR2.chg hS hne1).alloc _).drew, (hr1.alloc _).drew, (At.newAt (by simp)).drew, ((hcw2.setCell (p := ⟨w.heap.size, i, none⟩) (fun h => absurd h (Nat.lt_irrefl _)) _).alloc _).drew⟩
        · rintro W ⟨hhW, hoW, haW, hrW, htW, hcW⟩
          have hcR := haW.cell 0 rfl
          obtain ⟨c1, c2, c3, c4⟩ := row_cells hrW HC.out
          have x1 := htW.cell 0 rfl
          have x2 := htW.cell 1 rfl
          have x3 := htW.cell 2 rfl
          have x4 := htW.cell 3 rfl
          have hf0 := hrW.frozen (i * 4)
          have hf1 := hrW.frozen (i * 4 + 1)
          have hf2 := hrW.frozen (i * 4 + 2)
          have hf3 := hrW.frozen (i * 4 + 3)
          simp only [List.take_succ_cons, List.take_zero, List.drop_succ_cons, List.drop_zero]
          repeat (go_big_quiet_step (fail))
          refine wpQuiet_nil ?_
          show wpList _ _ _ _ _ _
          go_wp2_with (at_builtin; refine stop ?_)
          unfold Stop
          obtain ⟨W', hW'⟩ : ∃ W', (((W.setCell ⟨g, i * 4, none⟩ (.int .i64 a.tx)).setCell ⟨g, i * 4 + 1, none⟩ (.int .i64 a.role)).setCell ⟨g, i * 4 + 2, none⟩ (.int .i64 lv)).setCell ⟨g, i * 4 + 3, none⟩ (.int .i64 (a.tries + 1)) = W' := ⟨_, rfl⟩
          rw [hW']
          have hS : Chg (· = g) W W' := by
            rw [← hW']
            have t0 : Chg (fun x => x = g) W W := Chg.refl _ W
            have t1 := t0.setCell (p := ⟨g, i * 4, none⟩) (fun _ => rfl) (.int .i64 a.tx)
            have t2 := t1.setCell (p := ⟨g, i * 4 + 1, none⟩) (fun _ => rfl) (.int .i64 a.role)
            have t3 := t2.setCell (p := ⟨g, i * 4 + 2, none⟩) (fun _ => rfl) (.int .i64 lv)
            exact t3.setCell (p := ⟨g, i * 4 + 3, none⟩) (fun _ => rfl) (.int .i64 (a.tries + 1))
          have hsW : W'.heap.size = W.heap.size := by rw [← hW']; simp
          have hilr : i < (nowL L now is).length := by rw [nowL_len]; exact hil
          have hrW' : Row W' 0 (.slice (some ⟨g, 0, none⟩) L.length cap) (nowL L now (is ++ [i])) := by
            rw [← nowL_set is HA.out, HU.out, ← hW']
            have s0 := hrW.setCell cellsA_len (i := 0) (a' := ⟨a.tx, a.role, a.at_, a.tries⟩) (u := .int .i64 a.tx) HC.out (by omega) rfl
            have s1 := s0.setCell cellsA_len (i := 1) (a' := ⟨a.tx, a.role, a.at_, a.tries⟩) (u := .int .i64 a.role) (List.getElem?_set_self hilr) (by omega) rfl
            rw [List.set_set] at s1
            have s2 := s1.setCell cellsA_len (i := 2) (a' := ⟨a.tx, a.role, lv, a.tries⟩) (u := .int .i64 lv) (List.getElem?_set_self hilr) (by omega) rfl
            rw [List.set_set] at s2
            have s3 := s2.setCell cellsA_len (i := 3) (a' := ⟨a.tx, a.role, lv, a.tries + 1⟩) (u := .int .i64 (a.tries + 1)) (List.getElem?_set_self hilr) (by omega) rfl
            rw [List.set_set] at s3
            exact s3
          have hoW' := hoW.chg hS (fun g' hg' e => by have := (hoW.ge g' hg').1; omega)
          have hlo : ((is.map (getA L)).map (upd now)).length = is.length := by simp
          refine wpList_app (hoW'.alloc _) (SrcOf.one (a := ⟨a.tx, a.role, lv, a.tries + 1⟩) (At.newAt (by omega))) cellsA_len cellsA_one (by omega) 31 i0 _ 32 Try.underlying31 hi hz0 hz1 hz2 rfl rfl _ _ rfl rfl rfl (by rw [hlo]; simp [maxLen]; omega) (by rw [hlo]; omega) (by have := hcW.size; simp; omega) ?_
          intro v' w5 hr5 hg5 _
          obtain ⟨ao5, cap5, rfl, _, _, _⟩ := hr5.shape
          have hl5 : ((is.map (getA L)).map (upd now) ++ [(⟨a.tx, a.role, lv, a.tries + 1⟩ : Alarm)]).length = is.length + 1 := by simp
          rw [hl5] at hr5 ⊢
          go_wp2_with fail
          go_roundw
          case rel =>
            refine ⟨is ++ [i], hpk2, ?_, ?_, ⟨?_, ?_⟩, ?_⟩
            · rw [List.map_append, List.map_append, List.map_singleton, List.map_singleton, getA_eq HA.out, HU.out]
              exact hr5
            · exact ((hhW.chg hS (fun g' hg' e => by cases hg'; exact hne2 e.symm)).alloc _).grown hg5 (fun g' hg' e => hhW.apart hoW (by decide) g' hg' e)
            · exact ((haW.chg hS (fun e => hvb (by rw [e]; rfl))).alloc _).grown hg5 (fun e => by have := (hoW.ge _ e).1; omega)
            · exact (hrW'.alloc _).grown hg5 (fun g' hg' e => by cases hg'; have h1 : w.heap.size ≤ g := (hoW.ge _ e).1; omega)
            · exact ((hcW.trans hS (fun j _ e => by subst e; rfl)).alloc _).grown hg5 (fun k hk hlt => absurd (hoW.ge k hk).1 (by omega))
          case measure => simp [lenOf]; omega
end Go.Proofs.Ytgpholdeiahldaa
