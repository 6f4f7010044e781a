/- The library's walk over a map's values, and what collects them. Conditions: none beyond those stated. -/
import Derived.Test.YtgpholdeiahldaaTm
import Derived.Test.YtgpholdeiahldaaRng
import Derived.Test.YtgpholdeiahldaaRow2
import Derived.Test.YtgpholdeiahldaaRf2
import Derived.RangeFuncNested
import Derived.RangeFuncBound
import Derived.RangeFuncCalls
import Derived.RangeFuncLeaves
import Derived.RangeFuncMany
import Derived.Sort.MapsRangeIn
import Derived.Maps.AppendAt
import Derived.OwnWalkIn
import Derived.TacticsInMore
import Derived.RegionIn
import Derived.LoopNIn
import Derived.LoopIn
import Derived.Shelf.RegionOpen
namespace Go.Proofs.Ytgpholdeiahldaa
open Go.RowKit Go.Maps
attribute [local go_sem] Oper.semAt_some
section
variable {κ ν : Type} {P : Program} {k : TypeId} {enc : κ → Value} {val : ν → Value} {F : Fence} {n : Nat}
variable {ops : Array Oper} {rest : List Oper} {o : Oper} {a : Act} {Q : Exit → Act → World → Prop} {w : World} {b r : Nat} {l todo : List (κ × ν)} {t e : TypeId}
theorem wpListIn_rangeM (hown : MapIs P k enc val w b l) (ht : P.underlying t = some (.map k e)) (hg : o.guard = none) (x : Operand) (hop : o.op = Op.range t x) (hx : a.eval x = .map (some b))
    (h : ∀ w', RangeAt P k enc val w' b w.heap.size l l → w.grownBy w' none → w'.heap.size = w.heap.size + 1 → wpListIn F n P ops Q rest (a.put o.dst (.pointer (some ⟨w.heap.size, 0, none⟩))) w') : wpListIn F n P ops Q (o :: rest) a w := by
  refine wpListIn_plain hg fun K' hK' => ?_
  obtain ⟨w', hrun, h1, h2, h3⟩ := hown.range ht
  unfold Oper.wpIn
  refine ⟨by simp [Oper.about, hop], ?_⟩
  rw [Oper.semAt_plain F _ _ (by rw [hop]; intro c hc'; cases hc')]
  simp [execOp, hop, hx, hrun, Result.andThen]
  exact hK' _ _ (h w' h1 h2 h3)
theorem wpListIn_nextM [DecidableEq κ] (hown : RangeAt P k enc val w b r l todo) (hinj : ∀ x y, enc x = enc y → x = y) (hg : o.guard = none) (it : Operand) (hop : o.op = Op.next it false) (hit : a.eval it = .pointer (some ⟨r, 0, none⟩))
    (hDone : todo = [] → wpListIn F n P ops Q rest (a.put o.dst (.tuple #[.bool false])) w)
    (hMore : ∀ x v w', (x, v) ∈ todo → RangeAt P k enc val w' b r l (mdel todo x) → w.grownBy w' (some r) → w'.heap.size = w.heap.size → (Instr.entry (.pointer (some ⟨r, 0, none⟩))).run P w' = .ok (.tuple #[enc x, val v]) w' → wpListIn F n P ops Q rest (a.put o.dst (.tuple #[.bool true, enc x, val v])) w') :
    wpListIn F n P ops Q (o :: rest) a w := by
  refine wpListIn_plain hg fun K' hK' => ?_
  unfold Oper.wpIn
  refine ⟨by simp [Oper.about, hop], ?_⟩
  rw [Oper.semAt_plain F _ _ (by rw [hop]; intro c hc'; cases hc')]
  rcases hown.next hinj o.type with ⟨h0, hrun⟩ | ⟨x, v, w', h1, hrun, h2, h3, h4, h5⟩
  · simp [execOp, hop, hit, hrun, Result.andThen]
    exact hK' _ _ (hDone h0)
  · simp [execOp, hop, hit, hrun, Result.andThen]
    exact hK' _ _ (hMore x v w' h1 h2 h3 h4 h5)
theorem RangeAt.of_walks (h : RangeAt P k enc val w b r l todo) {w' : World} (hk : KeepsWalks w w') : RangeAt P k enc val w' b r l todo := by
  obtain ⟨hm, hs, es, clock, since, seen, c0, hb, hr, rest⟩ := h
  have e1 := hk.same b _ hb rfl
  have e2 := hk.same r _ hr rfl
  exact ⟨hm.of_heap (e1.trans hb.symm), hs, es, clock, since, seen, c0, e1, e2, rest⟩
theorem RangeAt.iter_walk (h : RangeAt P k enc val w b r l todo) : ∃ o : Obj, w.heap[r]? = some o ∧ o.isWalk = true := by
  obtain ⟨hm, hs, es, clock, since, seen, c0, hb, hr, rest⟩ := h
  exact ⟨_, hr, rfl⟩
end
/-- All values have come. -/
def AllVals (l : List (Key × Alarm)) (xs : List Alarm) : Prop := ∃ ps : List (Key × Alarm), ps.Perm l ∧ xs = ps.map (·.2)
set_option maxRecDepth 100000 in
set_option maxHeartbeats 1000000 in
theorem values1_in (F : Fence) (n : Nat) (hf : F.fn 34) (hro : F.round = none) (hn : 1 ≤ n) (li Bm b : Nat) (l : List (Key × Alarm)) (J Jx : List Alarm → World → Prop)
    (hY : ∀ pre x W, J pre W → pre.length < l.length → YieldAt F (n - 1) Try.prog li #[encA x] W fun e W' =>
      (e = .returned (.bool true) ∧ J (pre ++ [x]) W' ∧ KeepsWalks W W') ∨ (e = .returned (.bool false) ∧ Jx (pre ++ [x]) W'))
    (W : World) (hJ : AbidesFrom W.heap.size J) (hm : W.cell? ⟨Bm, 0, none⟩ = some (.map (some b))) (hown : TMap W b l) (h0 : J [] W) :
    CallsIn F n Try.prog 34 #[.func (.yield li) #[] #[], .pointer (some ⟨Bm, 0, none⟩)] W fun e W' => (∃ v, e = .returned v) ∧
      ((∃ xs, AllVals l xs ∧ J xs W') ∨ (∃ pre : List Alarm, Jx pre W')) := by
  refine callsIn_of_wp Try.func34 rfl hf ?_ hro
  simp only [Try.ntmps34, List.size_toArray, List.length_cons, List.length_nil, Nat.reduceAdd, Nat.reduceSub, Array.replicate_succ, Array.replicate_zero, List.push_toArray, List.append_toArray, List.nil_append, List.cons_append]
  gi_wp2_with (first
    | (gi_at_range; refine wpListIn_rangeM hown Try.underlying50 rfl _ rfl rfl ?_; intro w0 hrg0 hg0 hs0)
    | gi_in)
  go_frame
  gi_loopw [4] (fun _ wr => ∃ (vis todo : List (Key × Alarm)), RangeAt Try.prog 54 encK encA wr b W.heap.size l todo ∧ (vis ++ todo).Perm l ∧ J (vis.map (·.2)) wr)
    (fun _ wr => wr.rangeLeft b W.heap.size)
  case atStart =>
    exact ⟨[], l, hrg0, List.Perm.refl _, hJ [] W w0 none h0 hg0 (fun r e => by cases e)⟩
  case round =>
    obtain ⟨vis, todo, hrg, hp, hJs⟩ := hrel
    gi_wp2_with (first
      | (gi_at_next; refine wpListIn_nextM hrg encK_inj rfl _ rfl rfl ?_ ?_)
      | gi_in)
    · intro hnil
      subst hnil
      rw [List.append_nil] at hp
      gi_wp2
      go_end0
      exact ⟨⟨_, rfl⟩, .inl ⟨_, ⟨vis, hp, rfl⟩, hJs⟩⟩
    · intro x1 x2 a w2 hxa hrg2 hg2 hs2 hen
      have hlen := hp.length_eq
      have hpm := perm_mdel (hown.nodup.sublist (List.Sublist.map _ hrg.2.1)) hxa
      have hlen2 := hpm.length_eq
      simp only [List.length_append, List.length_cons] at hlen hlen2
      have hJ2 : J (vis.map (·.2)) w2 := hJ _ wr w2 (some W.heap.size) hJs hg2 (fun r e => by cases e; exact ⟨Nat.le_refl _, hrg.iter_walk⟩)
      have hJ3 : J (vis.map (·.2)) (w2.alloc (.cells #[.int .i64 a.tx, .int .i64 a.role, .int .i64 a.at_, .int .i64 a.tries] 34)) := hJ _ _ _ none hJ2 (World.grownBy_alloc _ _ none) (fun r e => by cases e)
      obtain ⟨fn, tmps, assign, body, hy, hR⟩ := hY (vis.map (·.2)) a _ hJ3 (by simp; omega)
      have hrg3 := hrg2.alloc (.cells #[.int .i64 a.tx, .int .i64 a.role, .int .i64 a.at_, .int .i64 a.tries] 34)
      have hp2 : (vis ++ [((x1, x2), a)] ++ mdel todo (x1, x2)).Perm l := by
        refine List.Perm.trans ?_ hp
        rw [List.append_assoc]
        exact List.Perm.append_left _ hpm
      clear hpm
      obtain ⟨a1, a2, a3, a4⟩ := a
      simp only [encA] at hen hy
      gi_wp2
      refine hR.mono ?_
      rintro e W3 (⟨rfl, hJ4, hk3⟩ | ⟨rfl, hJx3⟩)
      · have hrg4 := hrg3.of_walks hk3
        gi_wp2
        go_roundw
        case rel => exact ⟨vis ++ [((x1, x2), ⟨a1, a2, a3, a4⟩)], _, hrg4, hp2, by simpa using hJ4⟩
        case measure => rw [hrg4.left_eq, hrg.left_eq]; omega
      · gi_wp2
        refine bodyPost_ret (results_none rfl _ _ _) rfl ?_
        exact ⟨⟨_, rfl⟩, .inr ⟨_, hJx3⟩⟩
theorem values_stops (F : Fence) (n : Nat) (hf : F.fn 34) (hro : F.round = none) (hn : 1 ≤ n) (Bm b : Nat) (l : List (Key × Alarm)) (w : World) (hBm : Bm < w.heap.size) (hm : w.cell? ⟨Bm, 0, none⟩ = some (.map (some b))) (hown : TMap w b l) :
    SeqStopsK F n Try.prog 34 #[.pointer (some ⟨Bm, 0, none⟩)] (fun x : Alarm => #[encA x]) KeepsWalks (AllVals l) (fun _ => True) l.length w := fun li J Jx W hW hJ _ hY h0 => by
  refine (values1_in F n hf hro hn li Bm b l J Jx hY W hJ ((hW.cell (p := ⟨Bm, 0, none⟩) hBm).trans hm) (hown.of_heap (hW.block b hown.lt)) h0).mono ?_
  rintro e W' ⟨h1, h2 | ⟨pre, h2⟩⟩
  · exact ⟨h1, .inl h2⟩
  · exact ⟨h1, .inr ⟨pre, trivial, h2⟩⟩
theorem at_own {β : Type} (B : Nat) (cs : List Value) (T : TypeId) : Own (fun (_ : β) W => At W B cs T) := fun s X Y row hs hg hrow =>
  At.grown hs hg (fun e => by obtain ⟨o, ho, hc⟩ := hrow B e; rw [show X.heap[B]? = _ from hs] at ho; cases ho; cases hc)
set_option maxRecDepth 100000 in
set_option maxHeartbeats 2000000 in
theorem append_in (F : Fence) (n : Nat) (hf : F.fn 33) (hro : F.round = none) (hn : 2 ≤ n) (g : Nat) (lb : Array Value) (hFg : F.fn g) (eg : ∀ args w, (callFunc g args).run Try.prog w = .ok (.enter g args) w)
    (S Sp : List Alarm → Prop) (N : Nat) (hN : N ≤ 1099511627776) (w : World) (hseq : SeqStopsK F (n - 1) Try.prog g lb (fun x : Alarm => #[encA x]) KeepsWalks S Sp N w) :
    CallsIn F n Try.prog 33 #[.slice none 0 0, .func (.func g) #[] lb] w fun e w' => ∃ (v : Value) (xs : List Alarm), e = .returned v ∧ S xs ∧ Row w' w.heap.size v xs ∧ Below w.heap.size w w' := by
  have h1 : 1 ≤ n := by omega
  obtain ⟨i0, hi, hz0, hz1, hz2⟩ := info_parts info34
  refine callsIn_of_wp_marks Try.func33 rfl hf ?_ hro
  simp only [Try.ntmps33, List.size_toArray, List.length_cons, List.length_nil, Nat.reduceAdd, Nat.reduceSub, Array.replicate_succ, Array.replicate_zero, List.push_toArray, List.append_toArray, List.nil_append, List.cons_append]
  gi_wp2
  have bO := Boxed.new w 31 (.slice none 0 0)
  have hB0 : Below w.heap.size w (w.alloc (.cells #[.slice none 0 0] 31)) := (Below.refl _ w).alloc (Nat.le_refl _) _
  refine wpIn_rangeFunc_ownH hro h1 (gf := g) (lb := lb) rfl hFg eg hseq walksK_t walksK_b hB0 (fun _ => rfl)
    (fun pre W => (∃ v, Boxed W w.heap.size 31 v ∧ W.ownsRow w.heap.size 34 4 v pre.length (pre.flatMap cellsA) ∧ True) ∧ Below w.heap.size w W)
    (fun _ _ _ => False)
    (OwnFrom.and (Own.from (holdsRow_own w.heap.size w.heap.size 31 34 4 (fun pre : List Alarm => pre.length) (fun pre => pre.flatMap cellsA) (fun _ _ => True)) _) (ownFrom_below (Nat.le_refl _) (by simp)))
    (fun _ _ _ _ _ hs _ _ => hs)
    ⟨⟨_, bO, World.ownsRow_nil _ _ _ _, trivial⟩, hB0⟩
    (fun x a' W => ∃ Bx, w.heap.size < Bx ∧ At W Bx (cellsA x) 34 ∧ a' = { tmps := #[.slice none 0 0, .func (.func g) #[] lb, .pointer (some ⟨w.heap.size, 0, none⟩), undef, .slice none 0 0, .pointer (some ⟨Bx, 0, none⟩), .func (.func g) #[] lb, encA x, undef, undef, undef, undef, undef], defers := [] })
    (fun x a' _ X Y row hs hg hr => by obtain ⟨Bx, h1, h2, h3⟩ := hs; exact ⟨Bx, h1, at_own (β := Unit) Bx (cellsA x) 34 () X Y row h2 hg (fun r e => (hr r e).2), h3⟩)
    ?assign ?body ?done ?stop
  case assign =>
    rintro l pre x W K ⟨⟨v, hv, hrow, _⟩, hB1⟩ hK
    obtain ⟨a1, a2, a3, a4⟩ := x
    unfold encA
    gi_wp2
    exact hK _ _ ((KeepsOthers.alloc _ _).from _) (KeepsWalks.alloc _ _) ⟨⟨v, hv.alloc _, World.ownsRow.alloc hrow _, trivial⟩, hB1.alloc hB1.size _⟩ ⟨W.heap.size, hv.lt, At.new W (cellsA ⟨a1, a2, a3, a4⟩) 34, rfl⟩
  case body =>
    rintro l pre x a' W hl ⟨r, hr⟩ ⟨⟨v, hv, hrow, _⟩, hB1⟩ ⟨Bx, hBx, bX, rfl⟩ hlt
    have hc := hv.cell
    have c1 := bX.cell 0 rfl
    have c2 := bX.cell 1 rfl
    have c3 := bX.cell 2 rfl
    have c4 := bX.cell 3 rfl
    obtain ⟨a1, a2, a3, a4⟩ := x
    simp only at c1 c2 c3 c4
    gi_wp2_with (gi_at_builtin; refine wpListIn_append_own _ rfl _ _ 31 rfl w.heap.size 34 i0 (encA ⟨0, 0, 0, 0⟩) 4 32 Try.underlying31 hi hz0 hz1 hz2 rfl (by decide) _ _ _ rfl (World.ownsRow.alloc hrow _) ⟨W.heap.size, 0, none⟩ 1 1 (cellsA ⟨a1, a2, a3, a4⟩) rfl rfl (fun j u hu => (SrcOf.one (enc := cellsA) (At.new W (cellsA ⟨a1, a2, a3, a4⟩) 34)).cells _ rfl j u (by simpa using hu)) (cellsA_one _) (by simp [maxLen]; omega) (by omega) (by have := hB1.size; simp; omega) ?_; intro v' w1 hown' hgrow _; obtain ⟨g', cap', rfl⟩ := ownsRow_succ hown'; obtain ⟨hv1, hv2, hr2, hk2, hb2⟩ := hv.appended (by decide) hrow hB1.size (Nat.le_refl _) hown' hgrow; have hd1 := hv1.cell; have hf1 := hv1.frozen)
    exact ⟨hk2.from _, hk2.walks, ⟨_, hv2, by simpa using hr2, trivial⟩, hB1.trans hb2⟩
  case done =>
    rintro D ys W hD hS ⟨⟨v, hv, hrow, hnil⟩, hB⟩ hK
    have hc := hv.cell
    gi_wp2
    refine ⟨by simp, .inl ⟨_, _, rfl, run_takeDeferred hK, ?_⟩⟩
    exact ⟨_, results_tmp rfl _ _ _, v, ys, rfl, hS, ownsRow_putObj hrow _ hK rfl, hB.trans (belowK_b (w := w) (Nat.le_refl _) W D _ _ (by simp at hD; omega) hK rfl rfl)⟩
  case stop =>
    rintro D c pre W _ _ h _
    exact h.elim
set_option maxHeartbeats 1000000 in
theorem collect_in (F : Fence) (n : Nat) (h25 : F.fn 25) (h33 : F.fn 33) (hro : F.round = none) (hn : 3 ≤ n) (g : Nat) (lb : Array Value) (hFg : F.fn g) (eg : ∀ args w, (callFunc g args).run Try.prog w = .ok (.enter g args) w)
    (S Sp : List Alarm → Prop) (N : Nat) (hN : N ≤ 1099511627776) (w : World) (hseq : SeqStopsK F (n - 1 - 1) Try.prog g lb (fun x : Alarm => #[encA x]) KeepsWalks S Sp N w) :
    CallsIn F n Try.prog 25 #[.func (.func g) #[] lb] w fun e w' => ∃ (v : Value) (xs : List Alarm), e = .returned v ∧ S xs ∧ Row w' w.heap.size v xs ∧ Below w.heap.size w w' := by
  have h1 : 1 ≤ n := by omega
  refine callsIn_of_wp Try.func25 rfl h25 ?_ hro
  simp only [Try.ntmps25, List.size_toArray, List.length_cons, List.length_nil, Nat.reduceAdd, Nat.reduceSub, Array.replicate_succ, Array.replicate_zero, List.push_toArray, List.append_toArray, List.nil_append, List.cons_append]
  gi_wp2_with (gi_at_call 33; refine (append_in F (n - 1) h33 hro (by omega) g lb hFg eg S Sp N hN _ hseq).mono ?_; rintro e w' ⟨v, ss, rfl, hS, hrow, hb⟩)
  go_ret
  exact ⟨v, ss, rfl, hS, hrow, hb⟩
/-- What 'slices.Collect(maps.Values(m))' answers. -/
theorem collect_any (Bm b : Nat) (l : List (Key × Alarm)) (w : World) (hm : w.cell? ⟨Bm, 0, none⟩ = some (.map (some b))) (hown : TMap w b l) (hl : l.length ≤ 1099511627776) :
    Calls Try.prog 25 #[.func (.func 34) #[] #[.pointer (some ⟨Bm, 0, none⟩)]] w fun e w' => ∃ (v : Value) (xs : List Alarm), e = .returned v ∧ AllVals l xs ∧ Row w' w.heap.size v xs ∧ Chg NoB w w' := by
  have hBm : Bm < w.heap.size := World.block_lt_of_cell? w _ hm
  refine (callsIn_wide (n := 3)).1 ((collect_in Fence.wide 3 trivial trivial rfl (by omega) 34 _ trivial (enters_of Try.func34 (by kernel_rfl) rfl) (AllVals l) (fun _ => True) l.length hl w
    (values_stops Fence.wide 1 trivial rfl (by omega) Bm b l w hBm hm hown)).mono ?_)
  rintro e w' ⟨v, xs, rfl, h1, h2, h3⟩
  exact ⟨v, xs, rfl, h1, h2, Chg.of_below h3⟩
theorem values_any (b : Nat) (w : World) : Calls Try.prog 26 #[.map (some b)] w fun e w' => e = .returned (.func (.func 34) #[] #[.pointer (some ⟨w.heap.size, 0, none⟩)]) ∧ w' = w.alloc (.cells #[.map (some b)] 50) := by
  go_enter Try.func26, Try.ntmps26
  go_wp2
  go_ret
  exact ⟨rfl, rfl⟩
end Go.Proofs.Ytgpholdeiahldaa
