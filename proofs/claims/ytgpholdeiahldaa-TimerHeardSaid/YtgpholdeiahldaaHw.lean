/- The walk of 'TimerHeard'. Conditions: none. -/
import Derived.Test.YtgpholdeiahldaaHp
import Derived.Test.YtgpholdeiahldaaPair
import Derived.Test.YtgpholdeiahldaaRow3
import Derived.Test.YtgpholdeiahldaaAw
import Derived.Test.YtgpholdeiahldaaTm2
import Derived.Deep.CutRange
import Derived.Deep.CutBlock
namespace Go.Proofs.Ytgpholdeiahldaa
open Go.RowKit Go.Maps
/-- What the walk is told of the ints that came in. -/
def XRow (w : World) (a : Option Addr) (len : Nat) (xs : List Int) : Prop :=
  xs.length = len ∧ (∀ x ∈ xs, I64 x) ∧ ((a = none ∧ len = 0) ∨ ∃ ad, a = some ad ∧ ∀ (i : Nat) x, xs[i]? = some x → w.cell? (ad.add i) = some (.int .i64 x))
def cellsI (z : Int) : List Value := [.int .i64 z]
theorem cellsI_len (z : Int) : (cellsI z).length = 1 := rfl
abbrev IRow (w : World) (base : Nat) (v : Value) (l : List Int) : Prop := RowOf w base 3 1 cellsI v l
theorem info3 : (Try.prog.info? 3).map (fun i => (i.zero, i.size, i.bytes)) = some (some (.int .i64 0), 1, 8) := by kernel_rfl
def nxL (n i : Nat) (z : Int) : List Int := List.replicate i z ++ List.replicate (n - i) 0
theorem nxL_zero (n : Nat) (z : Int) : nxL n 0 z = List.replicate n 0 := by simp [nxL]
theorem nxL_all (n : Nat) (z : Int) : nxL n n z = List.replicate n z := by simp [nxL]
theorem nxL_get {n i : Nat} (z : Int) (h : i < n) : (nxL n i z)[i]? = some 0 := by
  unfold nxL
  rw [List.getElem?_append_right (by simp)]
  simp only [List.length_replicate, Nat.sub_self]
  rw [List.getElem?_replicate, if_pos (by omega)]
theorem nxL_set {n i : Nat} (z : Int) (h : i < n) : (nxL n i z).set i z = nxL n (i + 1) z := by
  unfold nxL
  rw [List.set_append_right _ _ (by simp)]
  obtain ⟨m, hm⟩ : ∃ m, n - i = m + 1 := ⟨n - i - 1, by omega⟩
  rw [hm, show n - (i + 1) = m by omega, List.replicate_succ, List.replicate_succ']
  simp
set_option maxHeartbeats 8000000 in
set_option maxRecDepth 200000 in
theorem walk_timerHeard (a : Option Addr) (len cap : Nat) (xs : List Int) (from_ ticks stop : Int) (w : World) (hrow : XRow w a len xs) (hf : I64 from_) (ht : I64 ticks) (hs : I64 stop) :
    Calls Try.prog 4 #[.slice a len cap, .int .i64 from_, .int .i64 ticks, .int .i64 stop] w fun e w' => e = .returned (.bool true) ∧ Below w.heap.size w w' := by
  have h6 := fun W => awake_any W
  unfold I64 at hf ht hs
  by_cases hbad : 20 < len ∨ from_ < 0 ∨ 549755813888 < from_ ∨ ticks < 0 ∨ 2000 < ticks
  · go_enter Try.func4, Try.ntmps4
    go_wp2_with (first | (go_at_call 10; refine (h6 _).mono ?_; rintro e W6 ⟨rfl, hc6⟩; go_frame) | fail)
    all_goals first
      | (exfalso; omega)
      | (go_ret; exact ⟨rfl, hc6.below (Nat.le_refl _) (fun k h => h.elim)⟩)
  · have e1 : decide (20 < (len : Int)) = false := by simp; omega
    have e2 : decide (from_ < 0) = false := by simp; omega
    have e3 : decide (549755813888 < from_) = false := by simp; omega
    have e4 : decide (ticks < 0) = false := by simp; omega
    have e5 : decide (2000 < ticks) = false := by simp; omega
    have hnew := new_any w
    obtain ⟨hxl, hxi, hrow⟩ := hrow
    go_enter Try.func4, Try.ntmps4
    go_wp2_with (first | (go_at_call 11; refine hnew.mono ?_; clear hnew; rintro e w1 ⟨rfl, ht1, hc1⟩; go_frame) | fail)
    have hT : ∀ j, j < w.heap.size → j = w.heap.size → NoB j := fun j h1 h2 => by omega
    go_loopw [10] (fun i wr => ∃ (i' : Nat) (l : List (Key × Alarm)), i = .int .i64 i' ∧ i' ≤ len ∧ TAt wr (w.heap.size + 1) w.heap.size l ∧ Begun xs from_ i' l ∧ Chg NoB w wr) (fun i _ => len - (intOf i).toNat)
    case atStart => exact ⟨0, [], rfl, Nat.zero_le _, ht1, Begun.nil _ _, hc1⟩
    case round =>
      obtain ⟨i, l, rfl, hi, htw, hbg, hcw⟩ := hrel
      by_cases hil : i < len
      · rcases hrow with ⟨_, h0⟩ | ⟨ad, rfl, hcells⟩
        · omega
        obtain ⟨x, hx⟩ : ∃ x, xs[i]? = some x := ⟨xs[i]'(by omega), by simp [hxl, hil]⟩
        have q1 := hcw.cell (hcells i x hx) (by simp [NoB])
        have hl1 : ((i : Int) < (len : Int)) := by omega
        have hd1 : decide ((i : Int) < (len : Int)) = true := by simpa using hl1
        have hi1 : (0 : Int) ≤ (i : Int) := by omega
        have HX := Lib.hid hx
        clear hx hcells
        by_cases hxb : x < 1 ∨ 1099511627776 < x
        · go_wp2_with (first | (go_at_call 10; refine (h6 _).mono ?_; rintro e W6 ⟨rfl, hc6⟩; go_frame) | fail)
          all_goals first
            | (exfalso; omega)
            | (go_ret; exact ⟨rfl, (hcw.trans hc6 (by simp [NoB])).below (Nat.le_refl _) (fun k h => h.elim)⟩)
            | trace_state
        · have f1 : decide (x < 1) = false := by simp; omega
          have f2 : decide (1099511627776 < x) = false := by simp; omega
          have hnb : ¬ badStart x 2 from_ := by unfold badStart; omega
          have hst := start_ok (w.heap.size + 1) w.heap.size l x 2 from_ wr htw hnb (Or.inr (by have := hbg.len; omega))
          go_wp2_with (first | (go_at_call 12; refine hst.mono ?_; clear hst; rintro e w2 ⟨rfl, ht2, hc2⟩; go_frame) | fail)
          exact ⟨⟨i + 1, _, by go_num, by omega, ht2, hbg.step htw.2.nodup HX.out hnb, hcw.trans hc2 hT⟩, by simp [intOf]; omega⟩
      · obtain rfl : i = len := by omega
        have hd1 : decide ((i : Int) < (i : Int)) = false := by simp
        obtain ⟨ii, hii, hzi0, hzi1, hzi2⟩ := info_parts info3
        rw [← hxl] at hbg
        have hbt := hbg.tick (stop := stop) (by omega) ⟨by omega, by omega⟩
        clear hbg
        rw [hxl] at hbt
        go_wp2_with (first
          | (refine wpList_make1 (val := cellsI) rfl _ _ 25 rfl w.heap.size 3 ii (.int .i64 0) 0 rfl rfl Try.underlying25 hii hzi0 hzi1 .i64 .i64 _ _ i rfl rfl rfl rfl (by rw [hzi2]; omega) (by simp [maxLen]; omega) (hcw.size) ?_; intro w2 hla hg2; go_frame)
          | (refine wpList_make1 (val := cellsI) rfl _ _ 25 rfl w.heap.size 3 ii (.int .i64 0) 0 rfl rfl Try.underlying25 hii hzi0 hzi1 .i64 .i64 _ _ i rfl rfl rfl rfl (by rw [hzi2]; omega) (by simp [maxLen]; omega) (Nat.le_trans hcw.size hg2.size) ?_; intro w3 hnx hg3; go_frame)
          | fail)
        have hlalt : wr.heap.size < w2.heap.size := (hla.ge _ rfl).2
        have hla3 := hla.grown hg3 (by simp)
        have ht3 : TAt w3 (w.heap.size + 1) w.heap.size l := ⟨(htw.1.grown hg2 (by simp)).grown hg3 (by simp), (htw.2.grown hg2 (by simp)).grown hg3 (by simp)⟩
        have hc3 : Chg NoB w w3 := (hcw.grown hg2 (by simp)).grown hg3 (by simp)
        have hszw := hcw.size
        have hb1 := htw.1.lt
        rw [← nxL_zero _ (from_ + 4)] at hnx
        clear hg2 hla hcw htw hg3
        generalize wr.heap.size = bl at *
        generalize w2.heap.size = bn at *
        go_loopw [13] (fun j wr' => ∃ j' : Nat, j = .int .i64 j' ∧ j' ≤ i ∧ IRow wr' w.heap.size (.slice (some ⟨bn, 0, none⟩) i i) (nxL i j' (from_ + 4)) ∧ Chg (· = bn) w3 wr') (fun j _ => i - (intOf j).toNat)
        case atStart => exact ⟨0, rfl, Nat.zero_le _, hnx, Chg.refl _ _⟩
        case round =>
          obtain ⟨j', rfl, hj', hnw, hcw⟩ := hrel
          by_cases hjl : j' < i
          · have hl1 : ((j' : Int) < (i : Int)) := by omega
            have hd2 : decide ((j' : Int) < (i : Int)) = true := by simpa using hl1
            have hi1 : (0 : Int) ≤ (j' : Int) := by omega
            have hget := nxL_get (from_ + 4) hjl
            have q1 := hnw.cell0 cellsI_len hget rfl
            have q2 := hnw.frozen j'
            rw [Nat.mul_one] at q1
            have hst := hnw.setCell cellsI_len (i := 0) (a' := from_ + 4) (u := .int .i64 (from_ + 4)) hget (by omega) rfl
            rw [nxL_set _ hjl, Nat.mul_one, Nat.add_zero] at hst
            have hcs := hcw.setCell (p := ⟨bn, j', none⟩) (fun _ => rfl) (.int .i64 (from_ + 4))
            have HS := Lib.hid hst
            clear hst hget
            go_wp2_with fail
            exact ⟨⟨j' + 1, by go_num, by omega, HS.out, hcs⟩, by simp [intOf]; omega⟩
          · obtain rfl : j' = i := by omega
            have hd2 : decide ((j' : Int) < (j' : Int)) = false := by simp
            rw [nxL_all] at hnw
            have hla4 := hla3.chg hcw (fun g hg e => by cases hg; have e' : bl = bn := e; omega)
            have ht4 : TAt wr (w.heap.size + 1) w.heap.size l := ⟨ht3.1.chg hcw (by omega), ht3.2.chg hcw (by omega)⟩
            have hc4 : Chg NoB w wr := hc3.trans hcw (fun j h1 h2 => by omega)
            clear hla3 ht3 hc3 hcw hd1 hd2
            go_wp2_with fail
            go_loopw [14] (fun kk wk => ∃ (k : Nat) (l : List (Key × Alarm)) (la nx : List Int), kk = .int .i64 k ∧ 1 ≤ k ∧ (k : Int) ≤ ticks + 1 ∧ TAt wk (w.heap.size + 1) w.heap.size l ∧ IRow wk w.heap.size (.slice (some ⟨bl, 0, none⟩) j' j') la ∧ IRow wk w.heap.size (.slice (some ⟨bn, 0, none⟩) j' j') nx ∧
                Tick xs from_ stop k l la nx (decide (0 < stop ∧ stop < k)) ∧ Chg NoB w wk) (fun kk _ => (ticks + 1 - intOf kk).toNat)
            case atStart =>
              refine ⟨1, l, _, _, rfl, Nat.le_refl _, by omega, ht4, hla4, hnw, ?_, hc4⟩
              rw [decide_eq_false (by omega)]
              exact hbt
            case round => as_aux_lemma =>
              clear hbt hla4 hnw ht4 hc4
              obtain ⟨k, l, la, nx, rfl, hk1, hk2, htk, hlaw, hnxw, htick, hcw⟩ := hrel
              by_cases hkt : (k : Int) ≤ ticks
              · have hd3 : decide ((k : Int) ≤ ticks) = true := by simpa using hkt
                go_upto_if 92 with (fail)
                go_cut [15] from 85 to 185 (fun _ wc => ∃ l : List (Key × Alarm), TAt wc (w.heap.size + 1) w.heap.size l ∧ IRow wc w.heap.size (.slice (some ⟨bl, 0, none⟩) j' j') la ∧ IRow wc w.heap.size (.slice (some ⟨bn, 0, none⟩) j' j') nx ∧
                  Tick xs from_ stop k l la nx (decide (0 < stop ∧ stop ≤ k)) ∧ Chg NoB w wc)
                case first => as_aux_lemma =>
                  by_cases hks : (k : Int) = stop
                  · have hz0 : ((k : Int) == stop) = true := by simpa using hks
                    have hkeys := htick.keys
                    go_wp2_with fail
                    go_loopw [15] (fun ii wi => ∃ (m : Nat) (l' : List (Key × Alarm)), ii = .int .i64 m ∧ m ≤ j' ∧ TAt wi (w.heap.size + 1) w.heap.size l' ∧ (∀ p ∈ l', p.1.2 = 2 ∧ p.1.1 ∈ xs.drop m) ∧ Chg (· = w.heap.size) wr wi) (fun ii _ => j' - (intOf ii).toNat)
                    case atStart => exact ⟨0, l, rfl, Nat.zero_le _, htk, by simpa using hkeys, Chg.refl _ _⟩
                    case round =>
                      obtain ⟨m, l', rfl, hm, hti, hki, hci⟩ := hrel
                      by_cases hmj : m < j'
                      · rcases hrow with ⟨_, h0⟩ | ⟨ad, rfl, hcells⟩
                        · omega
                        obtain ⟨x, hx⟩ : ∃ x, xs[m]? = some x := ⟨xs[m]'(by omega), by simp [hxl, hmj]⟩
                        have q1 := hci.cell (hcw.cell (hcells m x hx) (by simp [NoB])) (by have := World.block_lt_of_cell? w _ (hcells m x hx); omega)
                        have hd4 : decide ((m : Int) < (j' : Int)) = true := by simp; omega
                        have hl4 : (m : Int) < (j' : Int) := by omega
                        have hi4 : (0 : Int) ≤ (m : Int) := by omega
                        have hst := stop_any (w.heap.size + 1) w.heap.size l' x 2 _ hti (hxi x (List.mem_of_getElem? hx)) (by unfold I64; omega)
                        have hdr : xs.drop m = x :: xs.drop (m + 1) := by
                          rw [List.drop_eq_getElem_cons (List.getElem?_eq_some_iff.1 hx).1, (List.getElem?_eq_some_iff.1 hx).2]
                        have HK : ∀ p ∈ mdel l' (x, 2), p.1.2 = 2 ∧ p.1.1 ∈ xs.drop (m + 1) := by
                          intro p hp
                          unfold mdel at hp
                          obtain ⟨h1, h2⟩ := List.mem_filter.1 hp
                          obtain ⟨h3, h4⟩ := hki p h1
                          refine ⟨h3, ?_⟩
                          rw [hdr] at h4
                          rcases List.mem_cons.1 h4 with h5 | h5
                          · exfalso
                            have : p.1 = (x, 2) := Prod.ext h5 h3
                            simp [this] at h2
                          · exact h5
                        have HK2 := Lib.hid HK
                        clear hcells hdr hki hx HK hkeys
                        go_wp2_with (first | (go_at_call 13; refine hst.mono ?_; clear hst; rintro e w2 ⟨rfl, ht2, hc2⟩; go_frame) | fail)
                        exact ⟨⟨m + 1, _, by go_num, by omega, ht2, HK2.out, hci.trans hc2 (fun j _ h => h)⟩, by simp [intOf]; omega⟩
                      · obtain rfl : m = j' := by omega
                        have hd4 : decide ((m : Int) < (m : Int)) = false := by simp
                        have hnil : l' = [] := by
                          cases l' with
                          | nil => rfl
                          | cons p l'' =>
                            have := (hki p (by simp)).2
                            rw [← hxl, List.drop_length] at this
                            simp at this
                        subst hnil
                        clear hki hkeys
                        go_wp2_with fail
                        go_meet
                        case rel =>
                          refine ⟨[], hti, hlaw.chg hci (fun g hg e => by cases hg; have e' : bl = w.heap.size := e; omega), hnxw.chg hci (fun g hg e => by cases hg; have e' : bn = w.heap.size := e; omega), ?_, hcw.trans hci hT⟩
                          rw [decide_eq_true (by omega)]
                          exact htick.stopped
                  · have hz0 : ((k : Int) == stop) = false := by simpa using hks
                    go_wp2_with fail
                    go_meet
                    case rel =>
                      refine ⟨l, htk, hlaw, hnxw, ?_, hcw⟩
                      have e : decide (0 < stop ∧ stop ≤ (k : Int)) = decide (0 < stop ∧ stop < (k : Int)) := by
                        rw [decide_eq_decide]; omega
                      rw [e]
                      exact htick
                case rest => as_aux_lemma =>
                  clear htk hlaw hnxw htick hcw
                  obtain ⟨l, htk, hlaw, hnxw, htick, hcw⟩ := hcut
                  have hnow : I64 (from_ + k) := by unfold I64; omega
                  have hdue := due_any cmp_due_is ((k : Int) - 1) (by omega) (w.heap.size + 1) w.heap.size l (from_ + k) wc htk htick.good hnow (by have := htick.len; omega)
                  have hwr2 : IntKind.i64.wrap (from_ + k) = from_ + k := IntWalk.i64_in _ (by omega)
                  go_upto_region 26 with (first | (go_at_call 14; refine hdue.mono ?_; clear hdue; rintro e w5 ⟨v5, d, rfl, hdp, hds, hr5, ht5, hc5⟩; obtain ⟨ao5, cap5, rfl, _, hnil5, hsome5⟩ := hr5.shape; go_frame) | fail)
                  have hla5 := hlaw.chg hc5 (fun g hg e => by cases hg; have e' : bl = w.heap.size := e; omega)
                  have hnx5 := hnxw.chg hc5 (fun g hg e => by cases hg; have e' : bn = w.heap.size := e; omega)
                  have hcw5 : Chg NoB w w5 := hcw.trans hc5 hT
                  have hn5 := htk.2.nodup
                  obtain ⟨D, hD⟩ : ∃ D, d.map (upd (from_ + k)) = D := ⟨_, rfl⟩
                  rw [hD] at hr5 ht5 hnil5 ⊢
                  go_cut [121] from 85 to 185 (fun s wx => s = .bool false ∧ wx = w5)
                  case first => as_aux_lemma =>
                    have hi0 : (0 : Int) ≤ (D.length : Int) := by omega
                    by_cases hs1 : 0 < stop
                    · have g1 : decide (0 < stop) = true := by simpa using hs1
                      by_cases hs2 : stop ≤ (k : Int)
                      · have g2 : decide (stop ≤ (k : Int)) = true := by simpa using hs2
                        have hl0 := htick.over (by simp [hs1, hs2])
                        subst hl0
                        have hd0 := (putAll_nil _ hdp).1
                        subst hd0
                        have hD0 : D.length = 0 := by rw [← hD]; rfl
                        have HD0 := Lib.hid hD0
                        clear hD0
                        go_wp2_with fail
                        go_meet
                        case rel => exact ⟨by rw [HD0.out]; rfl, rfl⟩
                      · have g2 : decide (stop ≤ (k : Int)) = false := by simpa using hs2
                        go_wp2_with fail
                        go_meet
                        case rel => exact ⟨rfl, rfl⟩
                    · have g1 : decide (0 < stop) = false := by simpa using hs1
                      go_wp2_with fail
                      go_meet
                      case rel => exact ⟨rfl, rfl⟩
                  case rest =>
                    obtain ⟨rfl, rfl⟩ := hcut
                    have hDl : D.length ≤ 20 := by
                      have h1 := hdp.length_eq
                      have h2 := dueL_len l (from_ + k)
                      have h3 := htick.len
                      rw [← hD, List.length_map]
                      omega
                    have hbl5 := (hlaw.ge _ rfl).2
                    have hbn5 := (hnxw.ge _ rfl).2
                    go_wp2_with fail
                    go_loopw [17] (fun jj wm => ∃ (m : Nat) (la' nx' : List Int), jj = .int .i64 m ∧ m ≤ D.length ∧ IRow wm w.heap.size (.slice (some ⟨bl, 0, none⟩) j' j') la' ∧ IRow wm w.heap.size (.slice (some ⟨bn, 0, none⟩) j' j') nx' ∧ la'.length = xs.length ∧ nx'.length = xs.length ∧
                        (∀ i, Told xs k (D.take m) la nx la' nx' i) ∧ Chg (fun b => b = bl ∨ b = bn) wc wm) (fun jj _ => D.length - (intOf jj).toNat)
                    case atStart =>
                      exact ⟨0, la, nx, rfl, Nat.zero_le _, hla5, hnx5, htick.la_len, htick.nx_len, fun i => told_nil _ _ _ _ _, Chg.refl _ _⟩
                    case round =>
                      obtain ⟨m, la', nx', rfl, hm, hlam, hnxm, hll, hnl, htold, hcm⟩ := hrel
                      by_cases hmD : m < D.length
                      · have hd5 : decide ((m : Int) < (D.length : Int)) = true := by simp; omega
                        have hi5 : (0 : Int) ≤ (m : Int) := by omega
                        have hl5 : (m : Int) < (D.length : Int) := by omega
                        obtain ⟨al, hal⟩ : ∃ al, D[m]? = some al := ⟨D[m], by simp [hmD]⟩
                        have halive : decide (0 < stop ∧ stop ≤ (k : Int)) = false := by
                          cases hb : decide (0 < stop ∧ stop ≤ (k : Int)) with
                          | false => rfl
                          | true =>
                            have hl0 := htick.over hb
                            subst hl0
                            have hd0 := (putAll_nil _ hdp).1
                            subst hd0
                            rw [← hD] at hmD
                            simp at hmD
                        have hasks := htick.live halive
                        obtain ⟨g5, cap6, hv5, _, hg5, _⟩ := row_some hr5 hmD
                        simp only [Value.slice.injEq, true_and] at hv5
                        obtain ⟨rfl, rfl⟩ := hv5
                        go_wp2_with fail
                        go_loopw [18] (fun ii wm2 => ∃ (q : Nat) (la2 nx2 : List Int), ii = .int .i64 q ∧ q ≤ j' ∧ IRow wm2 w.heap.size (.slice (some ⟨bl, 0, none⟩) j' j') la2 ∧ IRow wm2 w.heap.size (.slice (some ⟨bn, 0, none⟩) j' j') nx2 ∧ la2.length = xs.length ∧ nx2.length = xs.length ∧
                          (∀ i, (i < q → Told xs k (D.take (m + 1)) la nx la2 nx2 i) ∧ (q ≤ i → Told xs k (D.take m) la nx la2 nx2 i)) ∧ Chg (fun b => b = bl ∨ b = bn) wc wm2) (fun ii _ => j' - (intOf ii).toNat)
                        case atStart =>
                          exact ⟨0, la', nx', rfl, Nat.zero_le _, hlam, hnxm, hll, hnl, fun i => ⟨fun h => absurd h (Nat.not_lt_zero _), fun _ => htold i⟩, hcm⟩
                        case round => as_aux_lemma =>
                          obtain ⟨q, la2, nx2, rfl, hq, hlaq, hnxq, hll2, hnl2, htq, hcq⟩ := hrel
                          by_cases hqj : q < j'
                          · rcases hrow with ⟨_, h0⟩ | ⟨ad, rfl, hcells⟩
                            · omega
                            obtain ⟨x, hx⟩ : ∃ x, xs[q]? = some x := ⟨xs[q]'(by omega), by simp [hxl, hqj]⟩
                            obtain ⟨y1, hy1⟩ : ∃ y, la2[q]? = some y := ⟨la2[q]'(by omega), by simp [hll2, hxl, hqj]⟩
                            obtain ⟨y2, hy2⟩ : ∃ y, nx2[q]? = some y := ⟨nx2[q]'(by omega), by simp [hnl2, hxl, hqj]⟩
                            have hcwq : Chg NoB w wr := hcw5.trans hcq (fun j h1 h2 => by omega)
                            have q1 := hcwq.cell (hcells q x hx) (by simp [NoB])
                            have hr6 := hr5.chg hcq (fun g hg e => by have h1 := (hr5.ge g hg).1; omega)
                            obtain ⟨p1, p2, p3, p4⟩ := row_cells hr6 hal
                            have z1 := hlaq.cell0 cellsI_len hy1 rfl
                            have z2 := hnxq.cell0 cellsI_len hy2 rfl
                            rw [Nat.mul_one] at z1 z2
                            have zf1 := hlaq.frozen q
                            have zf2 := hnxq.frozen q
                            have hd7 : decide ((q : Int) < (j' : Int)) = true := by simp; omega
                            have hl7 : (q : Int) < (j' : Int) := by omega
                            have hi7 : (0 : Int) ≤ (q : Int) := by omega
                            by_cases hxa : x = al.tx
                            · have ek : (k : Int) - 1 + 1 = k := by omega
                              have hE := Asks.early (K := (k : Int) - 1) (la' := la2) (nx' := nx2) (d := d) (i := q) (j := m) (x := x) (y := y2) (a := al) hasks hn5 (fun p hp => (htick.good p hp).1) htick.keys (by rw [ek]; exact hdp) (by rw [ek, hD]; exact hal) hx hxa.symm (by rw [ek, hD]; exact (htq q).2 (Nat.le_refl q)) hy2
                              rw [ek] at hE
                              have hE1 : decide (from_ + k < y2) = false := by simp; omega
                              have hx1 : (x == al.tx) = true := by simpa using hxa
                              have t0 := fun n : Nat => (Chg.refl NoB wr).drewN n
                              have s1 := fun n : Nat => (hlaq.chg (t0 n) (by simp [NoB])).setCell cellsI_len (i := 0) (a' := (k : Int)) (u := .int .i64 k) hy1 (by omega) rfl
                              simp only [Nat.mul_one, Nat.add_zero] at s1
                              have t1 : ∀ n : Nat, Chg (fun b => b = bl) (wr.drewN n) ((wr.drewN n).setCell ⟨bl, q, none⟩ (.int .i64 k)) := fun n => (Chg.refl (fun b => b = bl) _).setCell (p := ⟨bl, q, none⟩) (fun _ => rfl) _
                              have s2 := fun n : Nat => ((hnxq.chg (t0 n) (by simp [NoB])).chg (t1 n) (fun g hg e => by cases hg; have e' : bn = bl := e; omega)).setCell cellsI_len (i := 0) (a' := al.at_) (u := .int .i64 al.at_) hy2 (by omega) rfl
                              simp only [Nat.mul_one, Nat.add_zero] at s2
                              have t2 : ∀ n : Nat, Chg (fun b => b = bn) ((wr.drewN n).setCell ⟨bl, q, none⟩ (.int .i64 k)) (((wr.drewN n).setCell ⟨bl, q, none⟩ (.int .i64 k)).setCell ⟨bn, q, none⟩ (.int .i64 al.at_)) := fun n => (Chg.refl (fun b => b = bn) _).setCell (p := ⟨bn, q, none⟩) (fun _ => rfl) _
                              have s3 := fun n : Nat => (s1 n).chg (t2 n) (fun g hg e => by cases hg; have e' : bl = bn := e; omega)
                              have t3 := fun n : Nat => ((hcq.drewN n).trans (t1 n) (fun j _ e => Or.inl e)).trans (t2 n) (fun j _ e => Or.inr e)
                              have S2 := Lib.hid s2
                              have S3 := Lib.hid s3
                              clear s1 s2 s3 t0 t1 t2
                              have HT : ∀ i, (i < q + 1 → Told xs k (D.take (m + 1)) la nx (la2.set q k) (nx2.set q al.at_) i) ∧ (q + 1 ≤ i → Told xs k (D.take m) la nx (la2.set q k) (nx2.set q al.at_) i) := by
                                intro i
                                refine ⟨fun h => ?_, fun h => told_other ((htq i).2 (by omega)) (by omega)⟩
                                rcases Nat.lt_succ_iff_lt_or_eq.1 h with h | rfl
                                · exact told_other ((htq i).1 h) (by omega)
                                · exact told_hit hal hx hxa (by omega) (by omega)
                              have HT2 := Lib.hid HT
                              have hbln : ¬ bl = bn := by omega
                              have hbnl : ¬ bn = bl := by omega
                              have hg5l : ¬ g5 = bl := by have h1 := (hr5.ge g5 rfl).1; omega
                              have hg5n : ¬ g5 = bn := by have h1 := (hr5.ge g5 rfl).1; omega
                              clear HT hx hy1 hy2 hal hxa hcells htq
                              go_wp2_with fail
                              go_quiet (fail)
                              go_wp2_with fail
                              exact ⟨⟨q + 1, _, _, by go_num, by omega, S3.out _, S2.out _, by simp [hll2], by simp [hnl2], HT2.out, t3 _⟩, by simp [intOf]; omega⟩
                            · have hx1 : (x == al.tx) = false := by simpa using hxa
                              have HT : ∀ i, (i < q + 1 → Told xs k (D.take (m + 1)) la nx la2 nx2 i) ∧ (q + 1 ≤ i → Told xs k (D.take m) la nx la2 nx2 i) := by
                                intro i
                                refine ⟨fun h => ?_, fun h => (htq i).2 (by omega)⟩
                                rcases Nat.lt_succ_iff_lt_or_eq.1 h with h | rfl
                                · exact (htq i).1 h
                                · exact told_miss ((htq i).2 (Nat.le_refl i)) hal hx hxa
                              have HT2 := Lib.hid HT
                              have t0 := fun n : Nat => (Chg.refl NoB wr).drewN n
                              clear HT hx hy1 hy2 hal hxa hcells htq
                              go_wp2_with fail
                              go_quiet (fail)
                              go_wp2_with fail
                              exact ⟨⟨q + 1, la2, nx2, by go_num, by omega, hlaq.chg (t0 _) (by simp [NoB]), hnxq.chg (t0 _) (by simp [NoB]), hll2, hnl2, HT2.out, hcq.drewN _⟩, by simp [intOf]; omega⟩
                          · obtain rfl : q = j' := by omega
                            have hd7 : decide ((q : Int) < (q : Int)) = false := by simp
                            have HT : ∀ i, Told xs k (D.take (m + 1)) la nx la2 nx2 i := by
                              intro i
                              by_cases hiq : i < q
                              · exact (htq i).1 hiq
                              · intro x hx
                                have := (List.getElem?_eq_some_iff.1 hx).1
                                omega
                            have HT2 := Lib.hid HT
                            clear HT htq hal
                            go_wp2_with fail
                            exact ⟨⟨m + 1, la2, nx2, by go_num, by omega, hlaq, hnxq, hll2, hnl2, HT2.out, hcq⟩, by simp [intOf]; omega⟩
                      · obtain rfl : m = D.length := by omega
                        have hd5 : decide ((D.length : Int) < (D.length : Int)) = false := by simp
                        rw [List.take_length] at htold
                        have hnext := htick.next (la' := la') (nx' := nx') (d := d) (by omega) (by omega) (by omega) hn5 hdp hll hnl (by rw [hD]; exact htold)
                        rw [hD] at hnext
                        have ht6 : TAt wr (w.heap.size + 1) w.heap.size (putAll l D) := ⟨ht5.1.chg hcm (by rintro (h | h) <;> omega), ht5.2.chg hcm (by rintro (h | h) <;> omega)⟩
                        have hcw6 : Chg NoB w wr := hcw5.trans hcm (fun j h1 h2 => by omega)
                        clear htold hdp hds hr5 ht5 hla5 hnx5 hcm
                        go_wp2_with fail
                        go_loopw [19] (fun ii wz => ∃ q : Nat, ii = .int .i64 q ∧ q ≤ j' ∧ Chg NoB wr wz) (fun ii _ => j' - (intOf ii).toNat)
                        case atStart => exact ⟨0, rfl, Nat.zero_le _, Chg.refl _ _⟩
                        case round => as_aux_lemma =>
                          obtain ⟨q, rfl, hq, hcz⟩ := hrel
                          by_cases hqj : q < j'
                          · obtain ⟨y1, hy1⟩ : ∃ y, la'[q]? = some y := ⟨la'[q]'(by omega), by simp [hll, hxl, hqj]⟩
                            have z1 := (hlam.chg hcz (by simp [NoB])).cell0 cellsI_len hy1 rfl
                            rw [Nat.mul_one] at z1
                            have hd7 : decide ((q : Int) < (j' : Int)) = true := by simp; omega
                            have hl7 : (q : Int) < (j' : Int) := by omega
                            have hi7 : (0 : Int) ≤ (q : Int) := by omega
                            have hyb := hnext.la_in q y1 hy1
                            have hw7 : IntKind.i64.wrap ((k : Int) - y1) = (k : Int) - y1 := IntWalk.i64_in _ (by omega)
                            cases hdd : decide (0 < stop ∧ stop ≤ (k : Int)) with
                            | false =>
                              rw [hdd] at hnext
                              have hlate := hnext.late hy1
                              have hd8 : decide (64 < (k : Int) - y1) = false := by simp; omega
                              clear hy1 hdd hlate
                              go_wp2_with fail
                              exact ⟨⟨q + 1, by go_num, by omega, hcz⟩, by simp [intOf]; omega⟩
                            | true =>
                              have hdd2 := of_decide_eq_true hdd
                              have hd8 : decide (stop ≤ 0) = false := by simp; omega
                              have hd9 : decide ((k : Int) < stop) = false := by simp; omega
                              clear hy1 hdd
                              go_wp2_with fail
                              all_goals exact ⟨⟨q + 1, by go_num, by omega, hcz⟩, by simp [intOf]; omega⟩
                          · obtain rfl : q = j' := by omega
                            have hd7 : decide ((q : Int) < (q : Int)) = false := by simp
                            have HN := Lib.hid hnext
                            clear hnext
                            go_wp2_with fail
                            refine ⟨⟨k + 1, putAll l D, la', nx', by go_num, by omega, by omega, ht6.same hcz, hlam.chg hcz (by simp [NoB]), hnxm.chg hcz (by simp [NoB]), ?_, hcw6.trans hcz (by simp [NoB])⟩, by simp [intOf]; omega⟩
                            have e : decide (0 < stop ∧ stop < ((k + 1 : Nat) : Int)) = decide (0 < stop ∧ stop ≤ (k : Int)) := by
                              rw [decide_eq_decide]; omega
                            rw [e]
                            exact HN.out
              · have hd3 : decide ((k : Int) ≤ ticks) = false := by simpa using hkt
                go_wp2_with (first | (go_at_call 10; refine (h6 _).mono ?_; rintro e W6 ⟨rfl, hc6⟩; go_frame) | fail)
                go_ret
                exact ⟨rfl, (hcw.trans hc6 (by simp [NoB])).below (Nat.le_refl _) (fun k h => h.elim)⟩
end Go.Proofs.Ytgpholdeiahldaa
