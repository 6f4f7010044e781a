/- The table of rows: what All answers. Conditions: at most 2^32 rows. -/
import Derived.Test.YtpjmamobiancdaaKs
namespace Go.Proofs.Ytpjmamobiancdaa
open Go.RowKit Go.Maps Go.BigFrame
theorem info32 : (Try.prog.info? 32).map (fun i => (i.zero, i.size, i.bytes)) = some (some (valR zeroX), 8, 96) := by kernel_rfl
abbrev XRow (w : World) (base : Nat) (v : Value) (l : List X) : Prop := RowOf w base 32 8 cellsR v l
theorem RHas.one {w : World} {base : Nat} {x : X} (h : RHas w base x) : ∀ u ∈ cellsR x, u.oneCell' = true := by
  obtain ⟨am, cm, al, cl, e1, e2⟩ := h.shapes
  intro u hu
  simp only [cellsR, e1, e2, List.mem_cons, List.not_mem_nil, or_false] at hu
  rcases hu with rfl | rfl | rfl | rfl | rfl | rfl | rfl | rfl <;> rfl
/-- An append whose elements' cells are one cell each. -/
theorem wpList_app' {P : Program} {α : Type} {k : Nat} {e : TypeId} {enc : α → List Value} {w : World} {ops : Array Oper} {rest : List Oper} {o : Oper} {a : Act} {Q : Exit → Act → World → Prop} {base : Nat} {v : Value} {l : List α} {ao : Option Addr} {m c : Nat} {l2 : List α}
    (hown : RowOf w base e k enc v l) (hsrc : SrcOf w enc ao m c l2) (hk : ∀ x, (enc x).length = k) (h1 : ∀ x ∈ l2, ∀ u ∈ enc x, u.oneCell' = true) (hsz : 0 < k)
    (t : TypeId) (i : TypeInfo) (z : Value) (bytes : Nat) (ht : P.underlying t = some (.slice e)) (hi : P.info? e = some i) (hz : i.zero = some z) (hsize : i.size = k) (hby : i.bytes = bytes) (hzs : z.cells.size = k)
    (hgd : o.guard = none) (s x : Operand) (ho : o.op = .call { callee := .builtin .append, args := #[s, x], argTypes := #[t, t] }) (hs : a.eval s = v) (hx : a.eval x = .slice ao m c)
    (h63 : l.length + m ≤ maxLen) (hbytes : (l.length + m) * bytes ≤ 140737488355328) (hbase : base ≤ w.heap.size)
    (h : ∀ v' w', RowOf w' base e k enc v' (l ++ l2) → w.grownBy w' v.ownBlock → (v' = .slice none 0 0 ↔ v = .slice none 0 0 ∧ m = 0) → wpList P ops Q rest (a.put o.dst v') w') : wpList P ops Q (o :: rest) a w := by
  cases ao with
  | none =>
    obtain ⟨rfl, rfl⟩ := hsrc.nil rfl
    have : l2 = [] := List.eq_nil_of_length_eq_zero hsrc.len
    subst this
    refine wpList_append_own_none hgd s x t ho base e i k ht hi v l.length _ hs hown hx (h v w (by rw [List.append_nil]; exact hown) ⟨rfl, rfl, rfl, Nat.le_refl _, fun _ _ _ => rfl⟩ ?_)
    simp
  | some ad =>
    refine wpList_append_own w hgd s x t ho base e i z k bytes ht hi hz hsize hby hzs hsz v l.length _ hs hown ad m c (l2.flatMap enc) hx (by rw [flat_length hk, hsrc.len]) (hsrc.cells ad rfl) (fun u hu => ?_) h63 hbytes hbase (fun v' w' r1 r2 r3 => h v' w' ?_ r2 r3)
    · obtain ⟨x0, hx00, hx0⟩ := List.mem_flatMap.1 hu
      exact h1 x0 hx00 u hx0
    · unfold RowOf
      rw [List.length_append, hsrc.len, List.flatMap_append]
      exact r1
theorem all_nil (w : World) : Calls Try.prog 13 #[.pointer none] w fun e w' => e = .returned (.slice none 0 0) ∧ Chg NoB w w' := by
  go_enter Try.func13, Try.ntmps13
  go_wp2
  go_ret
  exact ⟨rfl, Chg.refl _ w⟩
/-- Where there is an element there is an address; and its cells. -/
theorem xrow_some {w : World} {base : Nat} {v : Value} {l : List X} (h : XRow w base v l) {j : Nat} (hj : j < l.length) : ∃ g cap, v = .slice (some ⟨g, 0, none⟩) l.length cap ∧ l.length ≤ cap ∧ base ≤ g ∧ g < w.heap.size := by
  obtain ⟨ao, cap, rfl, hc, hn, hs⟩ := h.shape
  cases ao with
  | none => rw [(hn rfl).1] at hj; simp at hj
  | some ad => obtain ⟨g, rfl, h1, h2⟩ := hs ad rfl; exact ⟨g, cap, rfl, hc, h1, h2⟩
theorem xrow_cells {w : World} {base g n cap : Nat} {l : List X} (h : XRow w base (.slice (some ⟨g, 0, none⟩) n cap) l) {j : Nat} {x : X} (ha : l[j]? = some x) :
    w.cell? ⟨g, j * 8, none⟩ = some (.int .i64 x.1.tx) ∧ w.cell? ⟨g, j * 8 + 1, none⟩ = some (.int .i64 x.1.state) ∧ w.cell? ⟨g, j * 8 + 2, none⟩ = some (.int .i64 x.1.first) ∧ w.cell? ⟨g, j * 8 + 3, none⟩ = some (.int .i64 x.1.last) ∧
    w.cell? ⟨g, j * 8 + 4, none⟩ = some (.int .i64 x.1.undo) ∧ w.cell? ⟨g, j * 8 + 5, none⟩ = some (.int .i64 x.1.coord) ∧ w.cell? ⟨g, j * 8 + 6, none⟩ = some x.2.1 ∧ w.cell? ⟨g, j * 8 + 7, none⟩ = some x.2.2 :=
  ⟨h.cell0 cellsR_len ha rfl, h.cell cellsR_len ha (i := 1) rfl, h.cell cellsR_len ha (i := 2) rfl, h.cell cellsR_len ha (i := 3) rfl, h.cell cellsR_len ha (i := 4) rfl, h.cell cellsR_len ha (i := 5) rfl, h.cell cellsR_len ha (i := 6) rfl, h.cell cellsR_len ha (i := 7) rfl⟩
theorem keys_in {l : List (Int × X)} {k : Int} (h : k ∈ sortI (l.map (·.1))) : ∃ x, mget l k = some x := by
  have : k ∈ l.map (·.1) := by
    unfold sortI at h
    exact (List.mergeSort_perm _ _).mem_iff.1 h
  exact Option.isSome_iff_exists.1 (mget_isSome.2 this)
set_option maxHeartbeats 4000000 in
set_option maxRecDepth 100000 in
theorem all_any (bt bm : Nat) (l : List (Int × X)) (w : World) (ht : TAt w bt bm l) (hlen : l.length ≤ 4294967296) :
    Calls Try.prog 13 #[.pointer (some ⟨bt, 0, none⟩)] w fun e w' => ∃ v L, e = .returned v ∧ XRow w' w.heap.size v L ∧ (∀ x ∈ L, RHas w' w.heap.size x) ∧ L.map (·.1) = (sortI (l.map (·.1))).map (fun k => (lookX l k).1) ∧ Chg NoB w w' := by
  obtain ⟨i0, hi, hz0, hz1, hz2⟩ := info_parts info32
  have hk1 := keys_any bm w
  have hk2 := sorted_any bm l w ht.mp (by omega)
  have hha := ht.hd
  have c0 := hha.cell 0 rfl
  have hlt := hha.lt
  have hnl : (sortI (l.map (·.1))).length = l.length := by unfold sortI; simp
  have hks := fun k (h : k ∈ sortI (l.map (·.1))) => keys_in h
  generalize hKs : sortI (l.map (·.1)) = ks at *
  clear hKs
  go_enter Try.func13, Try.ntmps13
  go_wp2_with (first | (go_at_call 32; refine hk1.mono ?_; clear hk1; rintro e w1 ⟨rfl, rfl⟩) | (go_at_call 31; refine hk2.mono ?_; clear hk2; rintro e w2 ⟨kv, rfl, hkr, hc2⟩; obtain ⟨ka, kc, rfl, _⟩ := hkr.shape) | fail)
  go_loopw [3, 15] (fun v i wr => ∃ (k : Nat) (L : List X), i = .int .i64 k ∧ k ≤ ks.length ∧ XRow wr w2.heap.size v L ∧ (∀ x ∈ L, RHas wr w2.heap.size x) ∧ L.map (·.1) = (ks.take k).map (fun k => (lookX l k).1) ∧ Chg NoB w2 wr) (fun _ i _ => ks.length - (intOf i).toNat)
  case atStart => exact ⟨0, [], rfl, Nat.zero_le _, RowOf.nil _ _, by simp, rfl, Chg.refl _ _⟩
  case round =>
    obtain ⟨k, L, rfl, hk, hrow, hxs, hL, hcr⟩ := hrel
    have hcw := hc2.trans hcr (by simp [NoB])
    by_cases hlt' : k < ks.length
    · obtain ⟨key, hkey⟩ : ∃ x, ks[k]? = some x := ⟨ks[k], List.getElem?_eq_getElem hlt'⟩
      obtain ⟨x, hx⟩ := hks key (List.mem_of_getElem? hkey)
      have hmem := mget_mem hx
      obtain ⟨hB, htx⟩ := ht.may _ hmem
      obtain ⟨hml, hll, htx1, htx2⟩ := rowB_len hB
      simp only at htx htx1 htx2 hml hll hB
      have htr := ht.no hcw
      have hR := htr.own _ hmem
      have hlook := (htr.mp).look law3 encN_inj Try.underlying57 zero32 (x := key) (key_lit (by unfold I64; omega)) false
      rw [hx] at hlook
      change (Instr.lookup 57 (.map (some bm)) (.int .i64 key) false).run Try.prog wr = .ok (valR x) wr at hlook
      have hLL : L.length = k := by
        have := congrArg List.length hL
        simp only [List.length_map, List.length_take] at this
        omega
      subst hLL
      have hlx : (lookX l key).1 = x.1 := by unfold lookX; rw [hx]; rfl
      have hown := own_sl x.1 _ _ wr hR.sees.1 hR.sees.2 (by omega) (by omega)
      obtain ⟨kad, kc', hkv, hkc⟩ := ((Sees.of_row hkr).no hcr).at_one (fun _ => rfl) hkey rfl
      cases hkv
      obtain ⟨oa, oc, rfl, _⟩ := hrow.shape
      have c0r := htr.hd.cell 0 rfl
      have hltr := htr.hd.lt
      have hl1 : ((L.length : Int) < (ks.length : Int)) := by omega
      have hi1 : (0 : Int) ≤ (L.length : Int) := by omega
      obtain ⟨⟨tx', state, first, last, undo, coord, ms, ls⟩, mv, lv⟩ := x
      obtain ⟨am, cm, al, cl, e1, e2⟩ := hR.shapes
      simp only at e1 e2
      subst e1
      subst e2
      unfold valR at hlook
      unfold rowV at hlook hown
      simp only at hlook hown hml hll hlx htx
      subst htx
      go_wp2_with (first | (go_at_call 30; refine hown.mono ?_; clear hown; rintro e w4 ⟨a1, k1, a2, k2, rfl, hR4, hc4⟩) | (at_builtin; refine stop ?_))
      unfold Stop
      have hrow4 := hrow.chg hc4 (by simp [NoB])
      have hbase : w2.heap.size ≤ w4.heap.size := Nat.le_trans hcr.size hc4.size
      refine wpList_app' (hrow4.alloc (.cells #[.int .i64 key, .int .i64 state, .int .i64 first, .int .i64 last, .int .i64 undo, .int .i64 coord, .slice a1 ms.length k1, .slice a2 ls.length k2] 32)) (SrcOf.one (a := ((⟨key, state, first, last, undo, coord, ms, ls⟩, .slice a1 ms.length k1, .slice a2 ls.length k2) : X)) (At.new w4 [.int .i64 key, .int .i64 state, .int .i64 first, .int .i64 last, .int .i64 undo, .int .i64 coord, .slice a1 ms.length k1, .slice a2 ls.length k2] 32)) cellsR_len (fun y hy => by rw [List.mem_singleton] at hy; subst hy; exact hR4.one) (by omega) 22 i0 _ 96 Try.underlying22 hi hz0 hz1 hz2 rfl rfl _ _ rfl rfl rfl (by simp [maxLen]; omega) (by omega) (by simp; omega) ?_
      intro v5 w5 hr5 hg5 _
      have hR5 : ∀ y ∈ L ++ [((⟨key, state, first, last, undo, coord, ms, ls⟩, .slice a1 ms.length k1, .slice a2 ls.length k2) : X)], RHas w5 w2.heap.size y := by
        intro y hy
        have hy4 : RHas w4 w2.heap.size y := by
          rcases List.mem_append.1 hy with hy | hy
          · exact (hxs y hy).no hc4
          · rw [List.mem_singleton] at hy
            subst hy
            exact hR4.mono hcr.size
        exact ⟨(hy4.1.alloc _).grown hg5 (fun g hg e => (hy4.1.apart hrow4 (by decide) g hg) e), (hy4.2.alloc _).grown hg5 (fun g hg e => (hy4.2.apart hrow4 (by decide) g hg) e)⟩
      have hc5 : Chg NoB w2 w5 := ((hcr.trans hc4 (by simp [NoB])).alloc _).grown hg5 (fun g hg hlt => by have := (hrow4.ge g hg).1; omega)
      have hL5 : (L ++ [((⟨key, state, first, last, undo, coord, ms, ls⟩, .slice a1 ms.length k1, .slice a2 ls.length k2) : X)]).map (·.1) = (ks.take (L.length + 1)).map (fun k => (lookX l k).1) := by
        rw [List.take_add_one, hkey, List.map_append, List.map_append, hL]
        simp [hlx]
      clear hL hxs hrow hR4 hlook
      go_wp2
      exact ⟨⟨L.length + 1, _, by go_num, by omega, hr5, hR5, hL5, hc5⟩, by simp [intOf]; omega⟩
    · obtain rfl : k = ks.length := by omega
      have hd1 : decide ((ks.length : Int) < (ks.length : Int)) = false := by simp
      have hsz := hc2.size
      rw [List.take_length] at hL
      go_wp2
      go_ret
      exact ⟨_, L, rfl, hrow.mono hsz, fun y hy => (hxs y hy).mono hsz, hL, hcw⟩
end Go.Proofs.Ytpjmamobiancdaa
