/- The table of rows: what New, Get and Drop do. Conditions: numbers within int. -/
import Derived.Test.YtpjmamobiancdaaOc
import Derived.Test.YtpjmamobiancdaaMa
import Derived.Test.YtpjmamobiancdaaRow3
namespace Go.Proofs.Ytpjmamobiancdaa
open Go.RowKit Go.Maps Go.BigFrame
/-- A row as it lies in memory: its data and its two slices. -/
abbrev X := Rw × Value × Value
def encN (n : Int) : Value := .int .i64 n
def valR (x : X) : Value := rowV x.1 x.2.1 x.2.2
theorem encN_inj (x y : Int) (h : encN x = encN y) : x = y := by simpa [encN] using h
theorem law3 : Keyed Try.prog 3 := int_keyed Try.underlying3
theorem key_lit {n : Int} (h : I64 n) : ∃ kl, keyOf Try.prog 3 (encN n) = some kl := ⟨_, keyOf_int_mk Try.underlying3 h.wf⟩
def zeroR : Rw := ⟨0, 0, 0, 0, 0, 0, [], []⟩
def zeroX : X := (zeroR, .slice none 0 0, .slice none 0 0)
theorem zero32 (w : World) : (zeroValue 32).run Try.prog w = .ok (valR zeroX) w := by kernel_rfl
abbrev TMap := MapIs Try.prog 3 encN valR
/-- A table stands behind the pointer: its field leads to the map of rows, each of its own. -/
structure TAt (w : World) (bt bm : Nat) (l : List (Int × X)) : Prop where
  hd : At w bt [.map (some bm)] 59
  mp : TMap w bm l
  own : ∀ p ∈ l, RHas w 0 p.2
  may : ∀ p ∈ l, rowB p.2.1 = true ∧ p.1 = p.2.1.tx
theorem RHas.chg {S : Nat → Prop} {w w' : World} {base : Nat} {x : X} (h : RHas w base x) (c : Chg S w w') (h1 : ∀ g, x.2.1.ownBlock = some g → ¬ S g) (h2 : ∀ g, x.2.2.ownBlock = some g → ¬ S g) : RHas w' base x :=
  ⟨h.1.chg c h1, h.2.chg c h2⟩
theorem RHas.no {w w' : World} {base : Nat} {x : X} (h : RHas w base x) (c : Chg NoB w w') : RHas w' base x := h.chg c (by simp [NoB]) (by simp [NoB])
theorem RHas.mono {w : World} {base base' : Nat} {x : X} (h : RHas w base x) (hb : base' ≤ base) : RHas w base' x := ⟨h.1.mono hb, h.2.mono hb⟩
theorem RHas.zero (w : World) (base : Nat) : RHas w base zeroX := ⟨RowOf.nil _ _, RowOf.nil _ _⟩
theorem RHas.sees {w : World} {base : Nat} {x : X} (h : RHas w base x) : Sees w cellsI x.2.1 x.1.ms ∧ Sees w cellsL x.2.2 x.1.ls := ⟨Sees.of_row h.1, Sees.of_row h.2⟩
theorem RHas.chg_at {w w' : World} {base : Nat} {x : X} {b : Nat} {cs : List Value} {T : TypeId} (h : RHas w base x) (ha : At w b cs T) (h1 : (3 : TypeId) ≠ T) (h2 : (42 : TypeId) ≠ T) (c : Chg (· = b) w w') : RHas w' base x :=
  h.chg c (fun g hg e => by subst e; exact h.1.apart_at ha h1 hg) (fun g hg e => by subst e; exact h.2.apart_at ha h2 hg)
theorem RHas.chg_map {w w' : World} {base : Nat} {x : X} {b : Nat} {l : List (Int × X)} (h : RHas w base x) (hm : TMap w b l) (c : Chg (· = b) w w') : RHas w' base x :=
  h.chg c (fun g hg e => by subst e; exact h.1.apart_map hm hg) (fun g hg e => by subst e; exact h.2.apart_map hm hg)
theorem TAt.no {w w' : World} {bt bm : Nat} {l : List (Int × X)} (h : TAt w bt bm l) (c : Chg NoB w w') : TAt w' bt bm l :=
  ⟨h.hd.chg c (by simp [NoB]), h.mp.chg c (by simp [NoB]), fun p hp => (h.own p hp).no c, h.may⟩
theorem TAt.ne {w : World} {bt bm : Nat} {l : List (Int × X)} (h : TAt w bt bm l) : bm ≠ bt := h.mp.ne_at h.hd
theorem new_any (w : World) : Calls Try.prog 10 #[] w fun e w' => e = .returned (.pointer (some ⟨w.heap.size + 1, 0, none⟩)) ∧ TAt w' (w.heap.size + 1) w.heap.size [] ∧ Chg NoB w w' := by
  have hmm := @run_makeMap Try.prog
  go_enter Try.func10, Try.ntmps10
  go_wp2
  go_ret
  refine ⟨rfl, ⟨?_, (MapIs.made w).alloc _, by simp, by simp⟩, ((Chg.refl _ w).alloc _).alloc _⟩
  have := At.new (w.alloc (.map #[] 0)) [.map (some w.heap.size)] 59
  simpa using this
def lookX (l : List (Int × X)) (tx : Int) : X := (mget l tx).getD zeroX
def hasX (l : List (Int × X)) (tx : Int) : Bool := (mget l tx).isSome
theorem mget_mem {κ ν : Type} [DecidableEq κ] {l : List (κ × ν)} {x : κ} {v : ν} (h : mget l x = some v) : (x, v) ∈ l := by
  unfold mget at h
  induction l with
  | nil => simp at h
  | cons p l ih =>
    obtain ⟨a, b⟩ := p
    rw [List.lookup_cons] at h
    split at h
    · rename_i he
      have : x = a := by simpa using he
      subst this
      cases h
      exact List.mem_cons_self ..
    · exact List.mem_cons_of_mem _ (ih h)
theorem TAt.look {w : World} {bt bm : Nat} {l : List (Int × X)} (h : TAt w bt bm l) (tx : Int) : RHas w 0 (lookX l tx) := by
  unfold lookX
  cases hg : mget l tx with
  | none => exact RHas.zero _ _
  | some v => exact h.own _ (mget_mem hg)
theorem TAt.looked {w : World} {bt bm : Nat} {l : List (Int × X)} (h : TAt w bt bm l) {tx : Int} (ht : I64 tx) (W : World) (hW : W.heap[bm]? = w.heap[bm]?) :
    (Instr.lookup 57 (.map (some bm)) (.int .i64 tx) true).run Try.prog W = .ok (.tuple #[valR (lookX l tx), .bool (hasX l tx)]) W := by
  have := (h.mp.of_heap hW).look law3 encN_inj Try.underlying57 zero32 (key_lit ht) true
  rw [found_ok] at this
  exact this
theorem rowB_len {r : Rw} (h : rowB r = true) : r.ms.length ≤ 8 ∧ r.ls.length ≤ 64 ∧ 1 ≤ r.tx ∧ r.tx ≤ 1099511627776 := by
  simp only [rowB, membersB, locksB, seqB, Bool.and_eq_true, decide_eq_true_eq] at h
  omega
theorem get_nil (tx : Int) (w : World) : Calls Try.prog 18 #[.pointer none, .int .i64 tx] w fun e w' => e = .returned (.tuple #[valR zeroX, .int .i64 2]) ∧ Chg NoB w w' := by
  go_enter Try.func18, Try.ntmps18
  go_wp2
  refine bodyPost_ret (v := .tuple #[valR zeroX, .int .i64 2]) ?_ rfl ⟨rfl, (Chg.refl _ w).alloc _⟩
  simp [results, Try.results18, go_sem, valR, rowV, zeroX, zeroR]
theorem RHas.shapes {w : World} {base : Nat} {x : X} (h : RHas w base x) : ∃ am cm al cl, x.2.1 = .slice am x.1.ms.length cm ∧ x.2.2 = .slice al x.1.ls.length cl := by
  obtain ⟨am, cm, h1, _⟩ := h.1.shape
  obtain ⟨al, cl, h2, _⟩ := h.2.shape
  exact ⟨am, cm, al, cl, h1, h2⟩
theorem own_sl (r : Rw) (mv lv : Value) (w : World) (hm0 : Sees w cellsI mv r.ms) (hl0 : Sees w cellsL lv r.ls) (hml : r.ms.length ≤ 1099511627776) (hll : r.ls.length ≤ 1099511627776) :
    Calls Try.prog 30 #[rowV r mv lv] w fun e w' => ∃ a1 k1 a2 k2, e = .returned (rowV r (.slice a1 r.ms.length k1) (.slice a2 r.ls.length k2)) ∧ RHas w' w.heap.size (r, .slice a1 r.ms.length k1, .slice a2 r.ls.length k2) ∧ Chg NoB w w' :=
  (own_any r mv lv w hm0 hl0 hml hll).mono fun e w' ⟨mv', lv', he, hR, hc⟩ => by
    obtain ⟨a1, k1, a2, k2, e1, e2⟩ := hR.shapes
    simp only at e1 e2
    subst e1
    subst e2
    exact ⟨a1, k1, a2, k2, he, hR, hc⟩
theorem copy_sl (r : Rw) (mv lv : Value) (w : World) (hm0 : Sees w cellsI mv r.ms) (hl0 : Sees w cellsL lv r.ls) (hml : r.ms.length ≤ 1099511627776) (hll : r.ls.length ≤ 1099511627776) :
    Calls Try.prog 12 #[rowV r mv lv] w fun e w' => ∃ a1 k1 a2 k2, e = .returned (rowV r (.slice a1 r.ms.length k1) (.slice a2 r.ls.length k2)) ∧ RHas w' w.heap.size (r, .slice a1 r.ms.length k1, .slice a2 r.ls.length k2) ∧ Chg NoB w w' :=
  (copy_any r mv lv w hm0 hl0 hml hll).mono fun e w' ⟨mv', lv', he, hR, hc⟩ => by
    obtain ⟨a1, k1, a2, k2, e1, e2⟩ := hR.shapes
    simp only at e1 e2
    subst e1
    subst e2
    exact ⟨a1, k1, a2, k2, he, hR, hc⟩
theorem mem_mdel {κ ν : Type} [DecidableEq κ] {l : List (κ × ν)} {x : κ} {p : κ × ν} (h : p ∈ mdel l x) : p ∈ l := by
  unfold mdel at h
  exact (List.mem_filter.1 h).1
theorem mem_mput {κ ν : Type} [DecidableEq κ] {l : List (κ × ν)} {x : κ} {v : ν} {p : κ × ν} (h : p ∈ mput l x v) : p ∈ l ∨ p = (x, v) := by
  unfold mput at h
  split at h
  · obtain ⟨q, hq, he⟩ := List.mem_map.1 h
    split at he
    · exact .inr he.symm
    · exact .inl (he ▸ hq)
  · rcases List.mem_append.1 h with h | h
    · exact .inl h
    · exact .inr (by simpa using h)
theorem TAt.put {w w' : World} {bt bm : Nat} {l : List (Int × X)} (h : TAt w bt bm l) {x : X} (hR : RHas w 0 x) (hB : rowB x.1 = true) (hm : TMap w' bm (mput l x.1.tx x)) (g : w.grownBy w' (some bm)) : TAt w' bt bm (mput l x.1.tx x) := by
  have hc : Chg (· = bm) w w' := (Chg.refl (· = bm) w).grown g (by simp)
  refine ⟨h.hd.chg hc (fun e => h.ne e.symm), hm, fun p hp => ?_, fun p hp => ?_⟩
  · rcases mem_mput hp with hp | rfl
    · exact (h.own p hp).chg_map h.mp hc
    · exact hR.chg_map h.mp hc
  · rcases mem_mput hp with hp | rfl
    · exact h.may p hp
    · exact ⟨hB, rfl⟩
theorem drop_nil (tx : Int) (w : World) : Calls Try.prog 23 #[.pointer none, .int .i64 tx] w fun e w' => e = .returned (.bool false) ∧ Chg NoB w w' := by
  go_enter Try.func23, Try.ntmps23
  go_wp2
  go_ret
  exact ⟨rfl, Chg.refl _ w⟩
set_option maxHeartbeats 1000000 in
theorem drop_any (bt bm : Nat) (l : List (Int × X)) (tx : Int) (w : World) (ht : TAt w bt bm l) (h1 : I64 tx) :
    Calls Try.prog 23 #[.pointer (some ⟨bt, 0, none⟩), .int .i64 tx] w fun e w' => e = .returned (.bool (hasX l tx)) ∧ TAt w' bt bm (mdel l tx) ∧ Chg (· = bm) w w' := by
  have hkey := key_lit h1
  have hL := ht.looked h1 w rfl
  have hx := ht.look tx
  have hne := ht.ne
  have hfin : ∀ w2, TMap w2 bm (mdel l tx) → Chg (· = bm) w w2 → TAt w2 bt bm (mdel l tx) := fun w2 hm2 hc =>
    ⟨ht.hd.chg hc (fun e => hne e.symm), hm2, fun p hp => (ht.own p (mem_mdel hp)).chg_map ht.mp hc, fun p hp => ht.may p (mem_mdel hp)⟩
  have ha := ht.hd
  have hm := ht.mp
  have hc := ha.cell 0 (v := .map (some bm)) rfl
  have hlt := ha.lt
  generalize lookX l tx = x at hL hx
  generalize hasX l tx = c at hL ⊢
  obtain ⟨⟨tx', state, first, last, undo, coord, ms, ls⟩, mv, lv⟩ := x
  obtain ⟨am, cm, al, cl, e1, e2⟩ := hx.shapes
  simp only at e1 e2
  subst e1
  subst e2
  unfold valR rowV at hL
  simp only at hL
  clear hx ht
  go_enter Try.func23, Try.ntmps23
  go_wp2_with (at_delete; refine wpList_drop (hm.alloc _) law3 encN_inj Try.underlying57 rfl _ _ rfl rfl tx rfl hkey ?_; intro w2 hm2 hg2)
  go_ret
  have hcw := ((Chg.refl (· = bm) w).alloc (.cells #[.int .i64 tx', .int .i64 state, .int .i64 first, .int .i64 last, .int .i64 undo, .int .i64 coord, .slice am ms.length cm, .slice al ls.length cl] 32)).grown hg2 (by simp)
  exact ⟨rfl, hfin _ hm2 hcw, hcw⟩
set_option maxHeartbeats 2000000 in
theorem get_any (bt bm : Nat) (l : List (Int × X)) (tx : Int) (w : World) (ht : TAt w bt bm l) (h1 : I64 tx) (hh : hasX l tx = true) :
    Calls Try.prog 18 #[.pointer (some ⟨bt, 0, none⟩), .int .i64 tx] w fun e w' => ∃ mv lv, e = .returned (.tuple #[valR ((lookX l tx).1, mv, lv), .int .i64 0]) ∧ RHas w' w.heap.size ((lookX l tx).1, mv, lv) ∧ Chg NoB w w' := by
  have hL := fun W hW => ht.looked h1 W hW
  have hx := ht.look tx
  rw [hh] at hL
  have hlen : rowB (lookX l tx).1 = true := by
    unfold hasX at hh
    obtain ⟨v, hv⟩ := Option.isSome_iff_exists.1 hh
    have := (ht.may _ (mget_mem hv)).1
    unfold lookX
    rw [hv]
    exact this
  obtain ⟨hml, hll, _⟩ := rowB_len hlen
  have hown := fun W (hW : Chg NoB w W) => own_sl (lookX l tx).1 _ _ W (hx.no hW).sees.1 (hx.no hW).sees.2 (by omega) (by omega)
  have ha := ht.hd
  have hc := ha.cell 0 (v := .map (some bm)) rfl
  have hlt := ha.lt
  have hmlt := ht.mp.lt
  clear hlen hml hll
  generalize lookX l tx = x at hL hx hown ⊢
  obtain ⟨⟨tx', state, first, last, undo, coord, ms, ls⟩, mv, lv⟩ := x
  obtain ⟨am, cm, al, cl, e1, e2⟩ := hx.shapes
  simp only at e1 e2
  subst e1
  subst e2
  unfold valR at hL ⊢
  unfold rowV at hL hown ⊢
  simp only at hL hown ⊢
  clear hx ht hh
  have hz : (w.alloc (.cells #[.int .i64 0, .int .i64 0, .int .i64 0, .int .i64 0, .int .i64 0, .int .i64 0, .slice none 0 0, .slice none 0 0] 32)).heap[bm]? = w.heap[bm]? := Below.heap_alloc _ _ _ hmlt
  have hL1 := hL _ hz
  have hres := At.new w [.int .i64 0, .int .i64 0, .int .i64 0, .int .i64 0, .int .i64 0, .int .i64 0, .slice none 0 0, .slice none 0 0] 32
  have hcb := (Chg.refl NoB w).alloc (.cells #[.int .i64 0, .int .i64 0, .int .i64 0, .int .i64 0, .int .i64 0, .int .i64 0, .slice none 0 0, .slice none 0 0] 32)
  have hown' := hown _ (hcb.alloc (.cells #[.int .i64 tx', .int .i64 state, .int .i64 first, .int .i64 last, .int .i64 undo, .int .i64 coord, .slice am ms.length cm, .slice al ls.length cl] 32))
  have hres' := hres.alloc (.cells #[.int .i64 tx', .int .i64 state, .int .i64 first, .int .i64 last, .int .i64 undo, .int .i64 coord, .slice am ms.length cm, .slice al ls.length cl] 32)
  clear hL hown
  go_enter Try.func18, Try.ntmps18
  go_wp2_with (go_at_call 30; refine hown'.mono ?_; clear hown'; rintro e w3 ⟨a1, k1, a2, k2, rfl, hR3, hc3⟩; have hr3 := hres'.chg hc3 (by simp [NoB]); have q0 := hr3.cell 0 rfl; have q1 := hr3.cell 1 rfl; have q2 := hr3.cell 2 rfl; have q3 := hr3.cell 3 rfl; have q4 := hr3.cell 4 rfl; have q5 := hr3.cell 5 rfl; have q6 := hr3.cell 6 rfl; have q7 := hr3.cell 7 rfl; have f0 := hr3.frozen 0; have f1 := hr3.frozen 1; have f2 := hr3.frozen 2; have f3 := hr3.frozen 3; have f4 := hr3.frozen 4; have f5 := hr3.frozen 5; have f6 := hr3.frozen 6; have f7 := hr3.frozen 7; have hlt3 := hr3.lt)
  have hcw := (hcb.alloc (.cells #[.int .i64 tx', .int .i64 state, .int .i64 first, .int .i64 last, .int .i64 undo, .int .i64 coord, .slice am ms.length cm, .slice al ls.length cl] 32)).trans hc3 (by simp [NoB])
  refine bodyPost_ret (v := .tuple #[.agg #[.int .i64 tx', .int .i64 state, .int .i64 first, .int .i64 last, .int .i64 undo, .int .i64 coord, .slice a1 ms.length k1, .slice a2 ls.length k2], .int .i64 0]) ?_ rfl ⟨_, _, rfl, ?_, ?_⟩
  · simp [results, Try.results18, go_sem, q0, q1, q2, q3, q4, q5, q6, q7]
  · exact (hR3.mono (by simp; omega)).chg ((Chg.refl (fun b => b = w.heap.size) w3).set8 (fun _ => rfl) _ _ _ _ _ _ _ _) (fun g hg e => by have := (hR3.1.ge g hg).1; simp at this; omega) (fun g hg e => by have := (hR3.2.ge g hg).1; simp at this; omega)
  · exact hcw.set8 (fun h => absurd h (Nat.lt_irrefl _)) _ _ _ _ _ _ _ _
set_option maxHeartbeats 2000000 in
theorem get_no (bt bm : Nat) (l : List (Int × X)) (tx : Int) (w : World) (ht : TAt w bt bm l) (h1 : I64 tx) (hh : hasX l tx = false) :
    Calls Try.prog 18 #[.pointer (some ⟨bt, 0, none⟩), .int .i64 tx] w fun e w' => e = .returned (.tuple #[valR zeroX, .int .i64 160]) ∧ Chg NoB w w' := by
  have hx : lookX l tx = zeroX := by
    unfold hasX at hh
    unfold lookX
    cases h : mget l tx with
    | none => rfl
    | some v => rw [h] at hh; cases hh
  have hL1 := ht.looked h1 _ (Below.heap_alloc w (.cells #[.int .i64 0, .int .i64 0, .int .i64 0, .int .i64 0, .int .i64 0, .int .i64 0, .slice none 0 0, .slice none 0 0] 32) _ ht.mp.lt)
  rw [hh, hx] at hL1
  have ha := ht.hd
  have hc := ha.cell 0 (v := .map (some bm)) rfl
  have hlt := ha.lt
  clear ht hh hx
  unfold valR rowV zeroX zeroR at *
  simp only at *
  go_enter Try.func18, Try.ntmps18
  go_wp2
  refine bodyPost_ret (v := .tuple #[.agg #[.int .i64 0, .int .i64 0, .int .i64 0, .int .i64 0, .int .i64 0, .int .i64 0, .slice none 0 0, .slice none 0 0], .int .i64 160]) ?_ rfl ⟨rfl, ?_⟩
  · simp [results, Try.results18, go_sem]
  · exact ((Chg.refl NoB w).alloc _).alloc _
end Go.Proofs.Ytpjmamobiancdaa
