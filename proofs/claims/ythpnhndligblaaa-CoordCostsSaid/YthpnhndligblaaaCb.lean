/- The coordinator: sets of nodes, messages to nodes. Conditions: numbers within int; at most 2^30 nodes. -/
import Derived.Test.YthpnhndligblaaaCa
namespace Go.Proofs.Ythpnhndligblaaa
open Go.RowKit Go.Maps Go.BigFrame
def setP (l : List Int) : List (Int × Bool) := l.map (fun n => (n, true))
theorem setP_keys (l : List Int) : (setP l).map (·.1) = l := by unfold setP; rw [List.map_map]; exact List.map_id _
theorem setP_snoc (l : List Int) (x : Int) (h : x ∉ l) : mput (setP l) x true = setP (l ++ [x]) := by
  unfold mput
  rw [if_neg (by rw [setP_keys]; exact h)]
  simp [setP]
set_option maxHeartbeats 1000000 in
theorem all_set (v : Value) (l : List Int) (w : World) (hv : Sees w cellsI v l) (hn : l.Nodup) (hi : ∀ n ∈ l, I64 n) (hl : l.length ≤ 1099511627776) :
    Calls Try.prog 23 #[v] w fun e w' => e = .returned (.map (some w.heap.size)) ∧ SMap w' w.heap.size (setP l) ∧ Chg NoB w w' := by
  have hmm := @run_makeMap Try.prog
  obtain ⟨ao, cap, rfl⟩ := hv.shape
  go_enter Try.func23, Try.ntmps23
  go_wp2
  go_loopw [9] (fun i wr => ∃ k : Nat, i = .int .i64 k ∧ k ≤ l.length ∧ SMap wr w.heap.size (setP (l.take k)) ∧ Chg NoB w wr) (fun i _ => l.length - (intOf i).toNat)
  case atStart => exact ⟨0, rfl, Nat.zero_le _, MapIs.made w, (Chg.refl _ w).alloc _⟩
  case round =>
    obtain ⟨k, rfl, hk, hm, hcw⟩ := hrel
    by_cases hlt' : k < l.length
    · obtain ⟨x, hx⟩ : ∃ x, l[k]? = some x := ⟨l[k], List.getElem?_eq_getElem hlt'⟩
      have hl1 : ((k : Int) < (l.length : Int)) := by omega
      have hi1 : (0 : Int) ≤ (k : Int) := by omega
      obtain ⟨ad, c', hvv, q0⟩ := (hv.no hcw).at_one cellsI_len hx rfl
      cases hvv
      have hkey := key_lit (hi x (List.mem_of_getElem? hx))
      have htk : l.take (k + 1) = l.take k ++ [x] := by rw [List.take_add_one, hx]; rfl
      have hnx : x ∉ l.take k := by
        intro hm
        have h1 := hn.sublist (List.take_sublist (k + 1) l)
        rw [htk, List.nodup_append] at h1
        exact h1.2.2 x hm x (by simp) rfl
      go_wp2_with (at_mapUpdate; refine wpList_store hm law3 encN_inj Try.underlying59 rfl _ _ _ rfl rfl x rfl true rfl hkey ?_; intro w2 hm2 hg2)
      rw [setP_snoc _ _ hnx, ← htk] at hm2
      have hcw2 : Chg NoB w w2 := hcw.grown hg2 (fun j hj hlt => by cases hj; omega)
      exact ⟨⟨k + 1, by go_num, by omega, hm2, hcw2⟩, by simp [intOf]; omega⟩
    · obtain rfl : k = l.length := by omega
      have hd1 : decide ((l.length : Int) < (l.length : Int)) = false := by simp
      rw [List.take_length] at hm
      go_wp2
      go_ret
      exact ⟨rfl, hm, hcw⟩
theorem infoM : (Try.prog.info? 46).map (fun i => (i.zero, i.size, i.bytes)) = some (some (.agg #[.int .i64 0, .int .i64 0, .int .i64 0, .int .i64 0, .slice none 0 0]), 5, 56) := by kernel_rfl
/-- Messages of one's own, each with members of its own. -/
def MRow (w : World) (base : Nat) (v : Value) (M : List Mg) : Prop := ∃ L : List (Mg × Value), RowOf w base 46 5 cellsM v L ∧ L.map (·.1) = M ∧ ∀ p ∈ L, IRow w base p.2 p.1.ms
theorem MRow.nil (w : World) (base : Nat) : MRow w base (.slice none 0 0) [] := ⟨[], RowOf.nil _ _, rfl, by simp⟩
theorem MRow.chg {S : Nat → Prop} {w w' : World} {base : Nat} {v : Value} {M : List Mg} (h : MRow w base v M) (c : Chg S w w') (hS : ∀ k, base ≤ k → ¬ S k) : MRow w' base v M := by
  obtain ⟨L, h1, h2, h3⟩ := h
  exact ⟨L, h1.chg c (fun g hg => hS g (h1.ge g hg).1), h2, fun p hp => (h3 p hp).chg c (fun g hg => hS g ((h3 p hp).ge g hg).1)⟩
theorem MRow.no {w w' : World} {base : Nat} {v : Value} {M : List Mg} (h : MRow w base v M) (c : Chg NoB w w') : MRow w' base v M := h.chg c (by simp [NoB])
theorem MRow.mono {w : World} {base base' : Nat} {v : Value} {M : List Mg} (h : MRow w base v M) (hb : base' ≤ base) : MRow w base' v M := by
  obtain ⟨L, h1, h2, h3⟩ := h
  exact ⟨L, h1.mono hb, h2, fun p hp => (h3 p hp).mono hb⟩
theorem MRow.shape {w : World} {base : Nat} {v : Value} {M : List Mg} (h : MRow w base v M) : ∃ ao c, v = .slice ao M.length c ∧ (ao = none → M = [] ∧ c = 0) ∧ ∀ ad, ao = some ad → ∃ g, ad = ⟨g, 0, none⟩ ∧ base ≤ g ∧ g < w.heap.size := by
  obtain ⟨L, h1, rfl, h3⟩ := h
  obtain ⟨ao, c, rfl, _, hn, hs⟩ := h1.shape
  rw [List.length_map]
  exact ⟨ao, c, rfl, fun h => by rw [(hn h).1]; exact ⟨rfl, (hn h).2⟩, hs⟩
theorem cellsM_one {m : Mg} {v : Value} {w : World} {base : Nat} (h : IRow w base v m.ms) : ∀ u ∈ cellsM (m, v), u.oneCell' = true := by
  obtain ⟨ao, c, rfl, _⟩ := h.shape
  intro u hu
  simp only [cellsM, List.mem_cons, List.not_mem_nil, or_false] at hu
  rcases hu with rfl | rfl | rfl | rfl | rfl <;> rfl
theorem wpList_app' {P : Program} {α : Type} {k : Nat} {e : TypeId} {enc : α → List Value} {w : World} {ops : Array Oper} {rest : List Oper} {o : Oper} {a : Act} {Q : Exit → Act → World → Prop} {base : Nat} {v : Value} {l : List α} {ao : Option Addr} {m c : Nat} {l2 : List α}
    (hown : RowOf w base e k enc v l) (hsrc : SrcOf w enc ao m c l2) (hk : ∀ x, (enc x).length = k) (h1 : ∀ x ∈ l2, ∀ u ∈ enc x, u.oneCell' = true) (hsz : 0 < k)
    (t : TypeId) (i : TypeInfo) (z : Value) (bytes : Nat) (ht : P.underlying t = some (.slice e)) (hi : P.info? e = some i) (hz : i.zero = some z) (hsize : i.size = k) (hby : i.bytes = bytes) (hzs : z.cells.size = k)
    (hgd : o.guard = none) (s x : Operand) (ho : o.op = .call { callee := .builtin .append, args := #[s, x], argTypes := #[t, t] }) (hs : a.eval s = v) (hx : a.eval x = .slice ao m c)
    (h63 : l.length + m ≤ maxLen) (hbytes : (l.length + m) * bytes ≤ 140737488355328) (hbase : base ≤ w.heap.size)
    (h : ∀ v' w', RowOf w' base e k enc v' (l ++ l2) → w.grownBy w' v.ownBlock → (v' = .slice none 0 0 ↔ v = .slice none 0 0 ∧ m = 0) → wpList P ops Q rest (a.put o.dst v') w') : wpList P ops Q (o :: rest) a w := by
  cases ao with
  | none =>
    obtain ⟨rfl, rfl⟩ := hsrc.nil rfl
    have : l2 = [] := List.eq_nil_of_length_eq_zero hsrc.len
    subst this
    refine wpList_append_own_none hgd s x t ho base e i k ht hi v l.length _ hs hown hx (h v w (by rw [List.append_nil]; exact hown) ⟨rfl, rfl, rfl, Nat.le_refl _, fun _ _ _ => rfl⟩ ?_)
    simp
  | some ad =>
    refine wpList_append_own w hgd s x t ho base e i z k bytes ht hi hz hsize hby hzs hsz v l.length _ hs hown ad m c (l2.flatMap enc) hx (by rw [flat_length hk, hsrc.len]) (hsrc.cells ad rfl) (fun u hu => ?_) h63 hbytes hbase (fun v' w' r1 r2 r3 => h v' w' ?_ r2 r3)
    · obtain ⟨x0, hx00, hx0⟩ := List.mem_flatMap.1 hu
      exact h1 x0 hx00 u hx0
    · unfold RowOf
      rw [List.length_append, hsrc.len, List.flatMap_append]
      exact r1
theorem S2 {w w' : World} {a0 a1 : Addr} {v0 v1 : Value} (h : w.cell? a0 = some v0 ∧ w.cell? a1 = some v1) (c : Chg NoB w w') : w'.cell? a0 = some v0 ∧ w'.cell? a1 = some v1 :=
  ⟨c.cell h.1 (by simp [NoB]), c.cell h.2 (by simp [NoB])⟩
def toM (kind me tx : Int) (mem ns : List Int) : List Mg := ns.map (fun n => ⟨kind, me, n, tx, if kind = 1 then mem else []⟩)
set_option maxHeartbeats 4000000 in
set_option maxRecDepth 100000 in
theorem to_any (bc : Nat) (mp : Value) (me kind : Int) (p : Ep) (v : Value) (ns : List Int) (w : World) (hd : At w bc [.int .i64 me, mp] 56) (hE : At w p.b (cellsE p) 61) (hm : Sees w cellsI p.mv p.e.mem) (hv : Sees w cellsI v ns) (hml : p.e.mem.length ≤ 1099511627776) (hnl : ns.length ≤ 1099511627776) :
    Calls Try.prog 24 #[.pointer (some ⟨bc, 0, none⟩), .pointer (some ⟨p.b, 0, none⟩), .int .i64 kind, v] w fun e w' => ∃ v', e = .returned v' ∧ MRow w' w.heap.size v' (toM kind me p.e.tx p.e.mem ns) ∧ Chg NoB w w' := by
  obtain ⟨i0, hi, hz0, hz1, hz2⟩ := info_parts infoM
  obtain ⟨ao, cap, rfl⟩ := hv.shape
  have hcl := fun W (hW : Chg NoB w W) => clone_int p.mv p.e.mem W (hm.no hW) hml
  go_enter Try.func24, Try.ntmps24
  go_wp2
  go_loopw [9, 15] (fun u i wr => ∃ (k : Nat), i = .int .i64 k ∧ k ≤ ns.length ∧ MRow wr w.heap.size u (toM kind me p.e.tx p.e.mem (ns.take k)) ∧ Chg NoB w wr) (fun _ i _ => ns.length - (intOf i).toNat)
  case atStart => exact ⟨0, rfl, Nat.zero_le _, MRow.nil _ _, Chg.refl _ w⟩
  case round =>
    obtain ⟨k, rfl, hk, hM, hcw⟩ := hrel
    by_cases hlt' : k < ns.length
    · obtain ⟨x, hx⟩ : ∃ x, ns[k]? = some x := ⟨ns[k], List.getElem?_eq_getElem hlt'⟩
      have hl1 : ((k : Int) < (ns.length : Int)) := by omega
      have hi1 : (0 : Int) ≤ (k : Int) := by omega
      obtain ⟨ad, c', hvv, q0⟩ := (hv.no hcw).at_one cellsI_len hx rfl
      cases hvv
      obtain ⟨L, hrow, hL, hLm⟩ := hM
      have hLk : L.length = k := by
        have := congrArg List.length hL
        simp [toM] at this
        omega
      subst hLk
      have hdw := hd.chg hcw (by simp [NoB])
      have hEw := hE.chg hcw (by simp [NoB])
      have c0 := hdw.cell 0 rfl
      have e0 := hEw.cell 0 rfl
      have hl0 := hdw.lt
      have hl2 := hEw.lt
      have htk : ns.take (L.length + 1) = ns.take L.length ++ [x] := by rw [List.take_add_one, hx]; rfl
      have hfin : ∀ (W : World) (u : Value) (y : Mg × Value), RowOf W w.heap.size 46 5 cellsM u (L ++ [y]) → y.1 = ⟨kind, me, x, p.e.tx, if kind = 1 then p.e.mem else []⟩ → (∀ q ∈ L ++ [y], IRow W w.heap.size q.2 q.1.ms) → MRow W w.heap.size u (toM kind me p.e.tx p.e.mem (ns.take (L.length + 1))) := by
        intro W u y h1 h2 h3
        refine ⟨_, h1, ?_, h3⟩
        rw [List.map_append, hL, htk]
        simp [toM, h2]
      obtain ⟨oa, oc, rfl, _⟩ := hrow.shape
      go_upto_region 5 with (fail)
      have hS := And.intro c0 e0
      have hSd : wr.drew.cell? ⟨bc, 0, none⟩ = some (.int .i64 me) ∧ wr.drew.cell? ⟨p.b, 0, none⟩ = some (.int .i64 p.e.tx) := hS
      clear c0 e0 hS
      go_region_held3 (fun W => W.cell? ⟨bc, 0, none⟩ = some (.int .i64 me) ∧ W.cell? ⟨p.b, 0, none⟩ = some (.int .i64 p.e.tx)) (first | assumption | exact S2 hSd ((Chg.refl NoB _).alloc _)) (fail)
      have hB : At (wr.alloc (.cells #[.int .i64 kind, .int .i64 me, .int .i64 x, .int .i64 p.e.tx, .slice none 0 0] 46)).drew wr.heap.size [.int .i64 kind, .int .i64 me, .int .i64 x, .int .i64 p.e.tx, .slice none 0 0] 46 := (At.new wr [.int .i64 kind, .int .i64 me, .int .i64 x, .int .i64 p.e.tx, .slice none 0 0] 46).drew
      have hc01 : Chg NoB wr (wr.alloc (.cells #[.int .i64 kind, .int .i64 me, .int .i64 x, .int .i64 p.e.tx, .slice none 0 0] 46)).drew := ((Chg.refl NoB wr).alloc _).drew
      have hbw := hcw.size
      have hgb : ∀ g, (Value.slice oa L.length oc).ownBlock = some g → g < wr.heap.size := fun g hg => (hrow.ge g hg).2
      have hgb2 : ∀ q ∈ L, ∀ g, q.2.ownBlock = some g → g < wr.heap.size := fun q hq g hg => ((hLm q hq).ge g hg).2
      generalize (wr.alloc (.cells #[.int .i64 kind, .int .i64 me, .int .i64 x, .int .i64 p.e.tx, .slice none 0 0] 46)).drew = w1 at *
      generalize wr.heap.size = b at *
      have hc1 : Chg NoB w w1 := hcw.trans hc01 (by simp [NoB])
      have hr1 := hrow.chg hc01 (by simp [NoB])
      have hL1 : ∀ q ∈ L, IRow w1 w.heap.size q.2 q.1.ms := fun q hq => (hLm q hq).chg hc01 (by simp [NoB])
      have hE1 := hE.chg hc1 (by simp [NoB])
      have e2 := hE1.cell 2 rfl
      have hlt2 := hE1.lt
      have hltB := hB.lt
      clear hSd hl0 hl2 hdw hEw hrow hLm hcw hc01
      by_cases hk1 : kind = 1
      · subst hk1
        have hcl' := hcl w1 hc1
        clear hcl
        go_upto_region 8 with (first | (go_at_call 27; refine hcl'.mono ?_; clear hcl'; rintro e w2 ⟨cv, rfl, hcr, hc2⟩; obtain ⟨ca, cc, rfl, _⟩ := hcr.shape; have hB2 := hB.chg hc2 (by simp [NoB]); have b4 := hB2.cell 4 rfl; have f4 := hB2.frozen 4; have hltB2 := hB2.lt) | fail)
        have hB3 := hB2.setCell 4 (.slice ca p.e.mem.length cc)
        simp only [List.set_cons_succ, List.set_cons_zero] at hB3
        have hcs : Chg (· = b) w2 (w2.setCell ⟨b, 4, none⟩ (.slice ca p.e.mem.length cc)) := (Chg.refl (· = b) w2).setCell (p := ⟨b, 4, none⟩) (fun _ => rfl) _
        have hc3 : Chg NoB w (w2.setCell ⟨b, 4, none⟩ (.slice ca p.e.mem.length cc)) := (hc1.trans hc2 (by simp [NoB])).trans hcs (fun j h1 h2 => by omega)
        have hr3 := (hr1.chg hc2 (by simp [NoB])).chg hcs (fun g hg e => by have := hgb g hg; omega)
        have hL3 : ∀ q ∈ L, IRow _ w.heap.size q.2 q.1.ms := fun q hq => ((hL1 q hq).chg hc2 (by simp [NoB])).chg hcs (fun g hg e => by have := hgb2 q hq g hg; omega)
        have hcr3 := (hcr.mono hc1.size).chg hcs (fun g hg e => by have := (hcr.ge g hg).1; omega)
        generalize w2.setCell ⟨b, 4, none⟩ (.slice ca p.e.mem.length cc) = w3 at *
        clear hB2 b4 f4 hltB2 hcs hr1 hL1 hc1 hB hgb hgb2 hcr
        have b0 := hB3.cell 0 rfl
        have b1 := hB3.cell 1 rfl
        have b2 := hB3.cell 2 rfl
        have b3 := hB3.cell 3 rfl
        have b4 := hB3.cell 4 rfl
        go_wp2_with (first | (at_builtin; refine stop ?_))
        unfold Stop
        refine wpList_app' (hr3.alloc _) (SrcOf.one (a := ((⟨1, me, x, p.e.tx, p.e.mem⟩ : Mg), Value.slice ca p.e.mem.length cc)) (At.new w3 [.int .i64 1, .int .i64 me, .int .i64 x, .int .i64 p.e.tx, .slice ca p.e.mem.length cc] 46)) cellsM_len (fun y hy => by rw [List.mem_singleton] at hy; subst hy; exact cellsM_one hcr3) (by omega) 30 i0 _ 56 Try.underlying30 hi hz0 hz1 hz2 rfl rfl _ _ rfl rfl rfl (by simp [maxLen]; omega) (by omega) (by simp; have := hc3.size; omega) ?_
        intro v5 w5 hr5 hg5 _
        have hM5 := hfin w5 v5 _ hr5 (by simp) (fun q hq => by
          have h3 : IRow w3 w.heap.size q.2 q.1.ms := by
            rcases List.mem_append.1 hq with hq | hq
            · exact hL3 q hq
            · rw [List.mem_singleton] at hq
              subst hq
              exact hcr3
          exact (h3.alloc _).grown hg5 (fun g hg e => (h3.apart hr3 (by decide) g hg) e))
        have hc5 : Chg NoB w w5 := (hc3.alloc _).grown hg5 (fun g hg hlt => by have := (hr3.ge g hg).1; omega)
        clear hfin hr3 hL3 hcr3 hB3 b0 b1 b2 b3 b4
        go_wp2
        exact ⟨⟨L.length + 1, by go_num, by omega, hM5, hc5⟩, by simp [intOf]; omega⟩
      · have hzk : (kind == 1) = false := by simpa using hk1
        have b0 := hB.cell 0 rfl
        have b1 := hB.cell 1 rfl
        have b2 := hB.cell 2 rfl
        have b3 := hB.cell 3 rfl
        have b4 := hB.cell 4 rfl
        clear hcl
        go_wp2_with (first | (at_builtin; refine stop ?_))
        unfold Stop
        refine wpList_app' (hr1.alloc _) (SrcOf.one (a := ((⟨kind, me, x, p.e.tx, []⟩ : Mg), Value.slice none 0 0)) (At.new w1 [.int .i64 kind, .int .i64 me, .int .i64 x, .int .i64 p.e.tx, .slice none 0 0] 46)) cellsM_len (fun y hy => by rw [List.mem_singleton] at hy; subst hy; exact cellsM_one (base := 0) (RowOf.nil w1 0)) (by omega) 30 i0 _ 56 Try.underlying30 hi hz0 hz1 hz2 rfl rfl _ _ rfl rfl rfl (by simp [maxLen]; omega) (by omega) (by simp; have := hc1.size; omega) ?_
        intro v5 w5 hr5 hg5 _
        have hM5 := hfin w5 v5 _ hr5 (by simp [hk1]) (fun q hq => by
          have h3 : IRow w1 w.heap.size q.2 q.1.ms := by
            rcases List.mem_append.1 hq with hq | hq
            · exact hL1 q hq
            · rw [List.mem_singleton] at hq
              subst hq
              exact RowOf.nil _ _
          exact (h3.alloc _).grown hg5 (fun g hg e => (h3.apart hr1 (by decide) g hg) e))
        have hc5 : Chg NoB w w5 := (hc1.alloc _).grown hg5 (fun g hg hlt => by have := (hr1.ge g hg).1; omega)
        clear hfin hr1 hL1 hB b0 b1 b2 b3 b4
        go_wp2
        exact ⟨⟨L.length + 1, by go_num, by omega, hM5, hc5⟩, by simp [intOf]; omega⟩
    · obtain rfl : k = ns.length := by omega
      have hd1 : decide ((ns.length : Int) < (ns.length : Int)) = false := by simp
      rw [List.take_length] at hM
      go_wp2
      go_ret
      exact ⟨_, rfl, hM, hcw⟩
end Go.Proofs.Ythpnhndligblaaa
