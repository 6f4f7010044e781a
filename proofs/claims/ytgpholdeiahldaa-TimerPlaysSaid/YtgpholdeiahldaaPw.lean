/- The walk of 'TimerPlays'. Conditions: none. -/
import Derived.Test.YtgpholdeiahldaaPair
import Derived.Deep.RegionHeld3
import Derived.Deep.CutRange
import Derived.Deep.CutBlock
namespace Go.Proofs.Ytgpholdeiahldaa
open Go.RowKit Go.Maps
/-- One call: what, and of whom, when. -/
structure CallQ where
  kind : Int
  tx : Int
  role : Int
  now : Int
def CallQ.ok (c : CallQ) : Prop := I64 c.kind ∧ I64 c.tx ∧ I64 c.role ∧ I64 c.now
/-- What the walk is told of the slice that came in. -/
def CRow (w : World) (a : Option Addr) (len : Nat) : Prop :=
  (a = none ∧ len = 0) ∨ ∃ ad, a = some ad ∧ ∀ i, i < len → ∃ c : CallQ, c.ok ∧ w.cell? (ad.add (i * 4)) = some (.int .i64 c.kind) ∧ w.cell? ⟨(ad.add (i * 4)).block, (ad.add (i * 4)).off + 1, none⟩ = some (.int .i64 c.tx) ∧
    w.cell? ⟨(ad.add (i * 4)).block, (ad.add (i * 4)).off + 2, none⟩ = some (.int .i64 c.role) ∧ w.cell? ⟨(ad.add (i * 4)).block, (ad.add (i * 4)).off + 3, none⟩ = some (.int .i64 c.now)
set_option maxHeartbeats 4000000 in
set_option maxRecDepth 100000 in
theorem walk_timerPlays (a : Option Addr) (len cap : Nat) (w : World) (hrow : CRow w a len) : Calls Try.prog 6 #[.slice a len cap] w fun e w' => e = .returned (.bool true) ∧ Below w.heap.size w w' := by
  have hnew := new_any w
  by_cases hlen : len ≤ 100
  · have hd0 : decide (100 < (len : Int)) = false := by simp; omega
    go_enter Try.func6, Try.ntmps6
    go_wp2_with (first | (go_at_call 11; refine hnew.mono ?_; clear hnew; rintro e w1 ⟨rfl, ht1, hc1⟩; go_frame) | fail)
    go_loopw [5] (fun i wr => ∃ (k : Nat) (l : List (Key × Alarm)) (L : List Alarm) (v : Value), i = .int .i64 k ∧ k ≤ len ∧ TAt wr (w.heap.size + 1) w.heap.size l ∧ RAt wr w1.heap.size v L ∧ Rel l L ∧ Good k l ∧ l.length ≤ k ∧ Chg NoB w wr ∧ (∀ g, v.ownBlock = some g → w.heap.size ≤ g)) (fun i _ => len - (intOf i).toNat)
    case atStart =>
      exact ⟨0, [], [], .slice none 0 0, rfl, Nat.zero_le _, ⟨ht1.1.alloc _, ht1.2.alloc _⟩, ⟨At.new w1 [.slice none 0 0] 40, RowOf.nil _ _⟩, Rel.nil, by intro p hp; simp at hp, by simp, hc1.alloc _, by intro g hg; cases hg⟩
    case round =>
      obtain ⟨k, l, L, v, rfl, hk, ht, hr, hrel, hg, hlk, hcw, hvw⟩ := hrel
      by_cases hkl : k < len
      · rcases hrow with ⟨_, h0⟩ | ⟨ad, rfl, hcells⟩
        · omega
        obtain ⟨⟨c1, c2, c3, c4⟩, hok, q1, q2, q3, q4⟩ := hcells k hkl
        have hsz := hcw.size
        have hadl := World.block_lt_of_cell? w _ q1
        have q1 := hcw.cell q1 (by simp [NoB])
        have q2 := hcw.cell q2 (by simp [NoB])
        have q3 := hcw.cell q3 (by simp [NoB])
        have q4 := hcw.cell q4 (by simp [NoB])
        simp only at q1 q2 q3 q4
        have hl1 : ((k : Int) < (len : Int)) := by omega
        have hd1 : decide ((k : Int) < (len : Int)) = true := by simpa using hl1
        have hi1 : (0 : Int) ≤ (k : Int) := by omega
        have hn := ht.2.nodup
        go_upto_block 2 with fail
        go_cut [7, 8, 9, 10, 11] from 19 to 113 (fun s7 s8 s9 s10 s11 wc => s7 = .bool true ∧ ∃ (l : List (Key × Alarm)) (L : List Alarm) (v : Value), TAt wc (w.heap.size + 1) w.heap.size l ∧ RAt wc w1.heap.size v L ∧ Rel l L ∧ Good (k + 1 : Nat) l ∧ l.length ≤ k + 1 ∧ Chg NoB w wc ∧ (∀ g, v.ownBlock = some g → w.heap.size ≤ g))
        case first =>
          have hb1 := ht1.1.lt
          have hb2 := ht1.2.lt
          have hb3 := hr.1.lt
          have hb4 := ht.1.lt
          have hb5 := ht.2.lt
          have hvl := hr.2.ge
          have hbm0 : w.heap.size ≤ w.heap.size := Nat.le_refl _
          have hbR0 : w.heap.size ≤ w1.heap.size := by omega
          have hne1 : w.heap.size + 1 ≠ w1.heap.size := by omega
          have hne2 : w.heap.size ≠ w1.heap.size := by omega
          have hbt : v.ownBlock ≠ some (w.heap.size + 1) := hr.2.apart_at ht.1 (by decide)
          have hbm : v.ownBlock ≠ some w.heap.size := hr.2.apart_map ht.2
          have hbc : ¬ (wr.heap.size = w1.heap.size ∨ v.ownBlock = some wr.heap.size) := by
            rintro (h | h)
            · omega
            · have := (hvl _ h).2; omega
          have hbox := (At.new wr [.int .i64 c1, .int .i64 c2, .int .i64 c3, .int .i64 c4] 42).drew
          have x1 := hbox.cell 0 rfl
          have x2 := hbox.cell 1 rfl
          have x3 := hbox.cell 2 rfl
          have x4 := hbox.cell 3 rfl
          have ht2 : TAt (wr.alloc (.cells #[.int .i64 c1, .int .i64 c2, .int .i64 c3, .int .i64 c4] 42)).drew (w.heap.size + 1) w.heap.size l := ⟨(ht.1.alloc _).drew, (ht.2.alloc _).drew⟩
          have hr2 : RAt (wr.alloc (.cells #[.int .i64 c1, .int .i64 c2, .int .i64 c3, .int .i64 c4] 42)).drew w1.heap.size v L := ⟨(hr.1.alloc _).drew, (hr.2.alloc _).drew⟩
          have hc2 : Chg NoB w (wr.alloc (.cells #[.int .i64 c1, .int .i64 c2, .int .i64 c3, .int .i64 c4] 42)).drew := (hcw.alloc _).drew
          by_cases hk0 : c1 = 0
          · have hz0 : (c1 == 0) = true := by simpa using hk0
            obtain ⟨r, l', L', hT, hR, hrel', hg', hl'⟩ := start_pair (w.heap.size + 1) w.heap.size w1.heap.size v c2 c3 c4 hrel hn hg hlk (by omega)
            clear hk0
            go_upto_region 12 with (fail)
            go_region_held3 (fun W => W.cell? ⟨wr.heap.size, 0, none⟩ = some (.int .i64 c1) ∧ W.cell? ⟨wr.heap.size, 1, none⟩ = some (.int .i64 c2) ∧ W.cell? ⟨wr.heap.size, 2, none⟩ = some (.int .i64 c3) ∧ W.cell? ⟨wr.heap.size, 3, none⟩ = some (.int .i64 c4))
              (first | assumption | exact ⟨x1, x2, x3, x4⟩) (first
              | (go_at_call 12; refine (hT _ ht2).mono ?_; clear hT; rintro e w3 ⟨rfl, ht3, hc3⟩; have hS3 := And.intro (hc3.cell x1 (by simp; omega)) (And.intro (hc3.cell x2 (by simp; omega)) (And.intro (hc3.cell x3 (by simp; omega)) (hc3.cell x4 (by simp; omega)))); have hr3 : RAt w3 w1.heap.size v L := ⟨hr2.1.chg hc3 (by omega), hr2.2.chg hc3 (fun g hg e => by subst e; exact hr2.2.apart_map ht2.2 hg)⟩)
              | (go_at_call 16; refine (hR _ hr3).mono ?_; clear hR; rintro e w4 ⟨rfl, v', hr4, hc4, hv4⟩; have hS4 := And.intro (hc4.cell hS3.1 hbc) (And.intro (hc4.cell hS3.2.1 hbc) (And.intro (hc4.cell hS3.2.2.1 hbc) (hc4.cell hS3.2.2.2 hbc)))))
            go_wp2_with fail
            go_meet
            case rel =>
              obtain ⟨h1, h2, h3, h4⟩ := after_two hbm0 hbR0 hne1 hne2 hbt hbm hvw hc2 ht3 hc3 hr4 hc4 hv4
              exact ⟨rfl, l', L', v', h1, h2, hrel', hg', hl', h3, h4⟩
          · have hz0 : (c1 == 0) = false := by simpa using hk0
            clear hk0
            by_cases hk1 : c1 = 1
            · have hz1 : (c1 == 1) = true := by simpa using hk1
              clear hk1
              obtain ⟨r, l', L', hT, hR, hrel', hg', hl'⟩ := stop_pair (w.heap.size + 1) w.heap.size w1.heap.size v c2 c3 hok.2.1 hok.2.2.1 hrel hn hg hlk (by omega)
              go_upto_region 14 with (fail)
              go_region_held3 (fun W => W.cell? ⟨wr.heap.size, 1, none⟩ = some (.int .i64 c2) ∧ W.cell? ⟨wr.heap.size, 2, none⟩ = some (.int .i64 c3))
                (first | assumption | exact ⟨x2, x3⟩) (first
                | (go_at_call 13; refine (hT _ ht2).mono ?_; clear hT; rintro e w3 ⟨rfl, ht3, hc3⟩; have hS3 := And.intro (hc3.cell x2 (by simp; omega)) (hc3.cell x3 (by simp; omega)); have hr3 : RAt w3 w1.heap.size v L := ⟨hr2.1.chg hc3 (by omega), hr2.2.chg hc3 (fun g hg e => by subst e; exact hr2.2.apart_map ht2.2 hg)⟩)
                | (go_at_call 17; refine (hR _ hr3).mono ?_; clear hR; rintro e w4 ⟨rfl, v', hr4, hc4, hv4⟩; have hS4 := And.intro (hc4.cell hS3.1 hbc) (hc4.cell hS3.2 hbc)))
              go_wp2_with fail
              go_meet
              case rel =>
                obtain ⟨h1, h2, h3, h4⟩ := after_two hbm0 hbR0 hne1 hne2 hbt hbm hvw hc2 ht3 hc3 hr4 hc4 hv4
                exact ⟨rfl, l', L', v', h1, h2, hrel', hg', hl', h3, h4⟩
            · have hz1 : (c1 == 1) = false := by simpa using hk1
              clear hk1
              by_cases hk2 : c1 = 2
              · have hz2 : (c1 == 2) = true := by simpa using hk2
                clear hk2
                have hget := fun W (h : TAt W (w.heap.size + 1) w.heap.size l) => get_any (w.heap.size + 1) w.heap.size l c2 c3 W h hok.2.1 hok.2.2.1
                have hrget := fun W (h : RAt W w1.heap.size v L) => rget_any w1.heap.size v L c2 c3 W h (by have := hrel.len; omega)
                obtain ⟨hth1, hth2⟩ := hrel.there hn c2 c3
                rw [hth1, hth2] at hrget
                clear hth1 hth2
                generalize look0 l c2 c3 = A at hget hrget
                generalize has0 l c2 c3 = B at hget hrget
                obtain ⟨a1, a2, a3, a4⟩ := A
                unfold encA at hget hrget
                have hbox0 := At.new wr [.int .i64 c1, .int .i64 c2, .int .i64 c3, .int .i64 c4] 42
                have ht0 : TAt (wr.alloc (.cells #[.int .i64 c1, .int .i64 c2, .int .i64 c3, .int .i64 c4] 42)) (w.heap.size + 1) w.heap.size l := ⟨ht.1.alloc _, ht.2.alloc _⟩
                have hr0 : RAt (wr.alloc (.cells #[.int .i64 c1, .int .i64 c2, .int .i64 c3, .int .i64 c4] 42)) w1.heap.size v L := ⟨hr.1.alloc _, hr.2.alloc _⟩
                have hc0 : Chg NoB w (wr.alloc (.cells #[.int .i64 c1, .int .i64 c2, .int .i64 c3, .int .i64 c4] 42)) := hcw.alloc _
                clear x1 x2 x3 x4
                go_wp2_with (first
                  | (go_at_call 18; refine (hget _ ht0).mono ?_; clear hget; rintro e w3 ⟨rfl, hc3⟩; have hb3 := hbox0.chg hc3 (by simp [NoB]); have hnx : ¬ wr.heap.size = w3.heap.size := (by have := hb3.lt; omega); have hlx : wr.heap.size < w3.heap.size := hb3.lt; have x1 := hb3.cell 0 rfl; have x2 := hb3.cell 1 rfl; have x3 := hb3.cell 2 rfl; have x4 := hb3.cell 3 rfl; go_frame)
                  | (go_at_call 19; refine (hrget _ ⟨(hr0.1.chg hc3 (by simp [NoB])).alloc _, (hr0.2.chg hc3 (by simp [NoB])).alloc _⟩).mono ?_; clear hrget; rintro e w4 ⟨rfl, hc4⟩; have hb4 := (At.new w3 [.int .i64 a1, .int .i64 a2, .int .i64 a3, .int .i64 a4] 34).chg hc4 (by simp [NoB]); have y1 := hb4.cell 0 rfl; have y2 := hb4.cell 1 rfl; have y3 := hb4.cell 2 rfl; have y4 := hb4.cell 3 rfl; have hn4 := hb4.lt; go_frame)
                  | fail)
                go_meet
                case rel =>
                  have hfin := ((hc3.alloc (.cells #[.int .i64 a1, .int .i64 a2, .int .i64 a3, .int .i64 a4] 34)).trans hc4 (by simp [NoB])).alloc (.cells #[.int .i64 a1, .int .i64 a2, .int .i64 a3, .int .i64 a4] 34)
                  refine ⟨rfl, l, L, v, ht0.same hfin, hr0.same hfin, hrel, ?_, by omega, hc0.trans hfin (by simp [NoB]), hvw⟩
                  have := hg.more
                  simpa using this
              · have hz2 : (c1 == 2) = false := by simpa using hk2
                clear hk2
                have hnow := hok.2.2.2
                simp only at hnow
                have hLl := hrel.len
                have hdue := fun W (h : TAt W (w.heap.size + 1) w.heap.size l) => due_any cmp_due_is k (by omega) (w.heap.size + 1) w.heap.size l c4 W h hg hnow (by omega)
                have hrdue := fun W (h : RAt W w1.heap.size v L) => rdue_any k (by omega) w1.heap.size v L c4 W h (fun a ha => by have := (hrel.mem).1 ha; have := hg _ this; exact ⟨this.2.2.2.2.1, this.2.2.2.2.2⟩) hnow (by omega)
                go_upto_region 10 with (fail)
                go_region_held3 (fun W => W.cell? ⟨wr.heap.size, 3, none⟩ = some (.int .i64 c4))
                  (first | assumption | exact x4) (first
                  | (go_at_call 14; refine (hdue _ ht2).mono ?_; clear hdue; rintro e w3 ⟨va, d, rfl, hdp, hds, hra3, ht3, hc3⟩; have hS3 := hc3.cell x4 (by simp; omega); have hr3 : RAt w3 w1.heap.size v L := ⟨hr2.1.chg hc3 (by omega), hr2.2.chg hc3 (fun g hg e => by subst e; exact hr2.2.apart_map ht2.2 hg)⟩)
                  | (go_at_call 21; refine (hrdue _ hr3).mono ?_; clear hrdue; rintro e w4 ⟨vo, is, rfl, hpk, hall, hro4, hr4, hc4⟩; have hS4 := hc4.cell hS3 (fun h => hbc (Or.inr h)))
                  | (go_at_call 20; obtain ⟨hd, hrel2⟩ := hrel.due hn hdp hds hpk hall; have hdl := (hdp.length_eq); have hdl2 := dueL_len l c4; refine (same_any _ _ va vo (d.map (upd c4)) w4 (hra3.chg hc4 (fun g hg e => by have h1 := (hra3.ge g hg).1; have h2 := (hvl g e).2; simp at h1; omega)) (by rw [hd]; exact hro4) (by rw [List.length_map]; omega)).mono ?_; rintro e w5 ⟨rfl, hc5⟩; have hS5 := hc5.cell hS4 (by simp [NoB])))
                go_wp2_with fail
                go_meet
                case rel =>
                  obtain ⟨h1, h2, h3, h4⟩ := after_two hbm0 hbR0 hne1 hne2 hbt hbm hvw hc2 ht3 hc3 hr4 (hc4.mono (fun b _ e => Or.inr e)) (fun g hg => Or.inl hg)
                  refine ⟨rfl, _, _, v, h1.same hc5, h2.same hc5, hrel2, ?_, ?_, h3.trans hc5 (by simp [NoB]), h4⟩
                  · have := hg.due hn hnow hdp
                    simpa using this
                  · rw [putAll_due hn hrel.keys hdp, List.length_map]
                    omega
        case rest =>
          clear ht hr hrel hg hlk hcw hvw hn q1 q2 q3 q4 hcells
          obtain ⟨rfl, l', L', v', ht, hr, hrel, hg, hlk, hcw, hvw⟩ := hcut
          have hc0 := hr.1.cell 0 rfl
          have hcd : wc.drew.cell? ⟨w1.heap.size, 0, none⟩ = some v' := hc0
          have htd : TAt wc.drew (w.heap.size + 1) w.heap.size l' := ⟨ht.1.drew, ht.2.drew⟩
          have hall := all_any cmp_all_is (w.heap.size + 1) w.heap.size l' wc.drew htd (by omega)
          have hLl := hrel.len
          go_upto_region 19 with (fail)
          go_region_held3 (fun W => W.cell? ⟨w1.heap.size, 0, none⟩ = some v')
            (first | assumption | exact hcd) (first
            | (go_at_call 15; refine hall.mono ?_; clear hall; rintro e w3 ⟨va, d, rfl, hdp, hds, hra3, hc3⟩; have hS3 := hc3.cell hcd (by simp [NoB]))
            | (go_at_call 20; obtain rfl := hrel.all hdp hds; refine (same_any _ _ va v' d w3 hra3 ((hr.2.drew).chg hc3 (by simp [NoB])) (by omega)).mono ?_; rintro e w5 ⟨rfl, hc5⟩; have hS5 := hc5.cell hS3 (by simp [NoB])))
          go_wp2_with fail
          have hrd : RAt wc.drew w1.heap.size v' d := ⟨hr.1.drew, hr.2.drew⟩
          exact ⟨⟨k + 1, l', d, v', by go_num, by omega, (htd.same hc3).same hc5, (hrd.same hc3).same hc5, hrel, hg, hlk, ((hcw.drew).trans hc3 (by simp [NoB])).trans hc5 (by simp [NoB]), hvw⟩, by simp [intOf]; omega⟩
      · have hd1 : decide ((k : Int) < (len : Int)) = false := by simp; omega
        have h6 := awake_any wr
        go_wp2_with (first | (go_at_call 10; refine h6.mono ?_; clear h6; rintro e W6 ⟨rfl, hc6⟩; go_frame) | fail)
        go_ret
        exact ⟨rfl, (hcw.trans hc6 (by simp [NoB])).below (Nat.le_refl _) (fun k h => h.elim)⟩
  · have hd0 : decide (100 < (len : Int)) = true := by simp; omega
    have h6 := awake_any w
    go_enter Try.func6, Try.ntmps6
    go_wp2_with (first | (go_at_call 10; refine h6.mono ?_; clear h6; rintro e W6 ⟨rfl, hc6⟩; go_frame) | fail)
    go_ret
    exact ⟨rfl, hc6.below (Nat.le_refl _) (fun k h => h.elim)⟩
end Go.Proofs.Ytgpholdeiahldaa
