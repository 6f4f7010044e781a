/- Lists of numbers of one's own: slices.BinarySearch and slices.Insert. Conditions: at most 2^40 numbers. -/
import Derived.Test.YthpnhndligblaaaRp
import Derived.Test.YthpnhndligblaaaShelf
import Derived.Test.YthpnhndligblaaaRow3
namespace Go.Proofs.Ythpnhndligblaaa
open Go.RowKit Go.Maps Go.BigFrame
/-- A slice of one's own of numbers. -/
abbrev IRow (w : World) (base : Nat) (v : Value) (l : List Int) : Prop := RowOf w base 3 1 cellsI v l
theorem flatI (l : List Int) : l.flatMap cellsI = l.map (.int .i64) := by
  induction l with
  | nil => rfl
  | cons a t ih => rw [List.flatMap_cons, ih]; rfl
theorem IRow.cell_at {w : World} {base g n cap : Nat} {l : List Int} (h : IRow w base (.slice (some ⟨g, 0, none⟩) n cap) l) {j : Nat} {x : Int} (hx : l[j]? = some x) : w.cell? ⟨g, j, none⟩ = some (.int .i64 x) := by
  have := RowOf.cell0 h cellsI_len hx (u := .int .i64 x) rfl
  rwa [Nat.mul_one] at this
theorem bsearch_any (base : Nat) (v : Value) (l : List Int) (x : Int) (w : World) (hr : IRow w base v l) (hl : l.length ≤ 1099511627776) (hs : l.Pairwise (· ≤ ·)) :
    Calls Try.prog 21 #[v, .int .i64 x] w fun e w' => e = .returned (.tuple #[.int .i64 (l.countP (· < x) : Nat), .bool (l.contains x)]) ∧ Chg NoB w w' := by
  obtain ⟨ao, cap, rfl, hcap, hn, had⟩ := hr.shape
  cases ao with
  | none =>
    obtain ⟨rfl, rfl⟩ := hn rfl
    exact (Any.slices_BinarySearch_int_empty Try.bsearch none 0 x w).mono fun e w' ⟨h1, h2⟩ => ⟨h1, by subst h2; exact Chg.refl _ _⟩
  | some ad =>
    obtain ⟨g, rfl, _, _⟩ := had ad rfl
    refine (Any.slices_BinarySearch_int Try.bsearch g 0 l.length cap l x w (Nat.le_refl _) (by omega) (fun j hj => ?_) (by rw [List.take_length]; exact hs)).mono fun e w' ⟨h1, q, h2⟩ => ⟨?_, ?_⟩
    · have hx : l[j]? = some (l.getD j 0) := by rw [List.getD_eq_getElem?_getD, List.getElem?_eq_getElem hj]; rfl
      rw [Nat.zero_add]
      exact IRow.cell_at hr hx
    · rw [List.take_length] at h1
      exact h1
    · subst h2
      exact (Chg.refl NoB w).drewN q
/-- What stands behind writes one after the other. -/
def wl : List Value → Nat → List Value → List Value
  | l, _, [] => l
  | l, o, v :: r => wl (l.set o v) (o + 1) r
theorem wl_eq : ∀ (vs : List Value) (l : List Value) (o : Nat), o + vs.length ≤ l.length → wl l o vs = l.take o ++ vs ++ l.drop (o + vs.length)
  | [], l, o, _ => by simp [wl]
  | v :: r, l, o, h => by
    rw [List.length_cons] at h
    rw [wl, wl_eq r _ _ (by rw [List.length_set]; omega)]
    have h1 : (l.set o v).take (o + 1) = l.take o ++ [v] := by
      rw [List.take_add_one, List.take_set, List.getElem?_set_self (by omega)]
      rw [List.set_eq_of_length_le (by rw [List.length_take]; omega)]
      rfl
    have h2 : (l.set o v).drop (o + 1 + r.length) = l.drop (o + (r.length + 1)) := by
      rw [List.drop_set_of_lt (by omega)]
      congr 1
      omega
    rw [h1, h2, List.length_cons, List.append_assoc, List.append_assoc, List.append_assoc]
    rfl
theorem At.setCells {b : Nat} {T : TypeId} : ∀ (vs : List Value) (o : Nat) (w : World) (cs : List Value), At w b cs T → At (w.setCells b o vs) b (wl cs o vs) T
  | [], _, _, _, h => h
  | v :: r, o, _, _, h => At.setCells r (o + 1) _ _ (h.setCell o v)
theorem Chg.setCells {S : Nat → Prop} {a : World} {b : Nat} (hb : b < a.heap.size → S b) : ∀ (vs : List Value) (o : Nat) (w : World), Chg S a w → Chg S a (w.setCells b o vs)
  | [], _, _, h => h
  | v :: r, o, _, h => Chg.setCells hb r (o + 1) _ (h.setCell (p := ⟨b, o, none⟩) hb v)
theorem IRow.to_at {w : World} {base g n cap : Nat} {l : List Int} (h : IRow w base (.slice (some ⟨g, 0, none⟩) n cap) l) :
    ∃ cur, At w g cur 3 ∧ base ≤ g ∧ n = l.length ∧ n ≤ cap ∧ cap ≤ maxLen ∧ cur.length = cap ∧ cur.take n = l.map (.int .i64) := by
  obtain ⟨_, h2⟩ := h
  rcases h2 with ⟨h2, _⟩ | ⟨g', cap', cur, h2, hb, hg, hn, hm, hc, ht⟩
  · cases h2
  · simp only [Value.slice.injEq, Option.some.injEq, Addr.mk.injEq, and_true] at h2
    obtain ⟨rfl, hnl, rfl⟩ := h2
    refine ⟨cur.toList, by unfold At; simpa using hg, hb, hnl, by omega, hm, by simpa using hc, ?_⟩
    rw [hnl, ← flatI, ← ht, Nat.mul_one]
theorem IRow.of_at {w : World} {base g cap : Nat} {l : List Int} {cur : List Value} (h : At w g cur 3) (hb : base ≤ g) (hn : l.length ≤ cap) (hm : cap ≤ maxLen) (hc : cur.length = cap) (ht : cur.take l.length = l.map (.int .i64)) :
    IRow w base (.slice (some ⟨g, 0, none⟩) l.length cap) l :=
  ⟨by rw [flatI, List.length_map, Nat.mul_one], .inr ⟨g, cap, cur.toArray, rfl, hb, h, hn, hm, by simpa using hc, by rw [flatI, Nat.mul_one]; simpa using ht⟩⟩
theorem At.shape {w : World} {b : Nat} {cs : List Value} {T : TypeId} (h : At w b cs T) : w.shape? b = some (T, cs.length) := by
  unfold At at h
  simp [World.shape?, h]
theorem oneC (l : List Int) : ∀ v ∈ l.map (Value.int .i64), v.oneCell' = true := by
  intro v hv
  obtain ⟨z, _, rfl⟩ := List.mem_map.1 hv
  rfl
theorem take_app {A Z : List Value} {x : Value} {n : Nat} (h : A.length = n) : (A ++ x :: Z).take (n + 1) = A ++ [x] := by
  rw [List.append_cons, List.take_left' (by simp [h])]
theorem shift_eq {cur M : List Value} {i : Nat} {x : Value} (htk : cur.take M.length = M) (hi : i ≤ M.length) (hc : M.length + 1 ≤ cur.length) :
    (wl (wl cur (0 + (i + 1)) (M.drop i)) (0 + i) [x]).take (M.length + 1) = M.take i ++ x :: M.drop i := by
  rw [wl_eq (M.drop i) cur _ (by simp; omega)]
  rw [wl_eq [x] _ _ (by simp; omega)]
  have h1 : (cur.take (0 + (i + 1)) ++ M.drop i ++ cur.drop (0 + (i + 1) + (M.drop i).length)).take (0 + i) = M.take i := by
    rw [List.append_assoc, List.take_append_of_le_length (by simp; omega), List.take_take, show min (0 + i) (0 + (i + 1)) = i by omega]
    rw [← htk, List.take_take]
    simp
    omega
  have h2 : (cur.take (0 + (i + 1)) ++ M.drop i ++ cur.drop (0 + (i + 1) + (M.drop i).length)).drop (0 + i + [x].length) = M.drop i ++ cur.drop (0 + (i + 1) + (M.drop i).length) := by
    rw [List.append_assoc, List.drop_left' (by simp; omega)]
  rw [h1, h2]
  have : (M.take i ++ [x] ++ (M.drop i ++ cur.drop (0 + (i + 1) + (M.drop i).length))) = (M.take i ++ x :: M.drop i) ++ cur.drop (0 + (i + 1) + (M.drop i).length) := by simp
  rw [this, List.take_left' (by simp; omega)]
theorem grow_eq {cur M : List Value} {i : Nat} {x : Value} (htk : cur.take i = M.take i) (hi : i ≤ M.length) (hc : M.length + 1 ≤ cur.length) :
    (wl (wl cur i [x]) (i + 1) (M.drop i)).take (M.length + 1) = M.take i ++ x :: M.drop i := by
  rw [wl_eq [x] cur _ (by simp; omega)]
  rw [wl_eq (M.drop i) _ _ (by simp; omega)]
  have h1 : (cur.take i ++ [x] ++ cur.drop (i + [x].length)).take (i + 1) = M.take i ++ [x] := by
    rw [List.take_left' (by simp; omega), htk]
  rw [h1]
  have : (M.take i ++ [x] ++ M.drop i ++ (cur.take i ++ [x] ++ cur.drop (i + [x].length)).drop (i + 1 + (M.drop i).length)) = (M.take i ++ x :: M.drop i) ++ (cur.take i ++ [x] ++ cur.drop (i + [x].length)).drop (i + 1 + (M.drop i).length) := by simp
  rw [this, List.take_left' (by simp; omega)]
theorem wl_len (vs : List Value) (l : List Value) (o : Nat) (h : o + vs.length ≤ l.length) : (wl l o vs).length = l.length := by
  rw [wl_eq vs l o h]
  simp
  omega
theorem At.newArr (w : World) (cs : Array Value) (T : TypeId) : At (w.alloc (.cells cs T)) w.heap.size cs.toList T := by
  have := At.new w cs.toList T
  simpa using this
theorem insT : Try.insert_ren.t 3 = 3 := rfl
/-- A number put in at its place. -/
def insI (l : List Int) (i : Nat) (x : Int) : List Int := l.take i ++ x :: l.drop i
theorem insI_len {l : List Int} {i : Nat} {x : Int} (h : i ≤ l.length) : (insI l i x).length = l.length + 1 := by
  unfold insI
  simp
  omega
set_option maxHeartbeats 2000000 in
theorem insert_any (base bx : Nat) (v : Value) (l : List Int) (i : Nat) (x : Int) (w : World) (hr : IRow w base v l) (hl : l.length ≤ 1099511627776) (hi : i ≤ l.length) (hx : At w bx [.int .i64 x] 3) (hne : v.ownBlock ≠ some bx) (hb0 : base ≤ w.heap.size) :
    Calls Try.prog 22 #[v, .int .i64 i, .slice (some ⟨bx, 0, none⟩) 1 1] w fun e w' => ∃ v', e = .returned v' ∧ IRow w' base v' (insI l i x) ∧ Chg (fun b => v.ownBlock = some b) w w' ∧ (∀ g, v'.ownBlock = some g → v.ownBlock = some g ∨ w.heap.size ≤ g) := by
  have hlen := insI_len (x := x) hi
  have hxc : ∀ (j : Nat) (u : Value), [Value.int .i64 x][j]? = some u → w.cell? ⟨bx, 0 + j, none⟩ = some u := fun j u hu => by rw [Nat.zero_add]; exact hx.cell j hu
  have hx1 : ∀ u ∈ [Value.int .i64 x], u.oneCell' = true := by simp [Value.oneCell']
  have hmap : (insI l i x).map (Value.int .i64) = (l.map (.int .i64)).take i ++ Value.int .i64 x :: (l.map (.int .i64)).drop i := by
    unfold insI
    rw [List.map_append, List.map_take, List.map_cons, List.map_drop]
  obtain ⟨ao, cap, rfl, hcap, hn, had⟩ := hr.shape
  cases ao with
  | none =>
    obtain ⟨rfl, rfl⟩ := hn rfl
    obtain rfl : i = 0 := by simpa using hi
    refine (Any2.slices_Insert_int_end_grow Try.insert none 0 0 bx 0 1 1 [] [.int .i64 x] w (by omega) (by omega) (by omega) (by omega) rfl rfl (fun _ => rfl) (fun a ha => by cases ha) hxc hx1).mono fun e w' ⟨h1, h2⟩ => ⟨_, h1, ?_, ?_, ?_⟩
    · rw [insT] at h1 h2
      subst h2
      have hg := grownCap_ge w (0 + 1) 0 3
      have hgm := grownCap_le_maxLen w (0 + 1) 0 3 (by unfold maxLen; omega)
      rw [insT]
      generalize grownCap w (0 + 1) 0 3 = G at *
      exact IRow.of_at (l := [x]) (At.newArr w.drew _ 3) hb0 hg hgm (by simp [size_zeroCells, Value.cells]; omega) (by simp)
    · subst h2
      exact ((Chg.refl _ w).drew).alloc _
    · intro g hg
      simp [Value.ownBlock] at hg
      exact .inr (by omega)
  | some ad =>
    obtain ⟨g, rfl, hgb, hgw⟩ := had ad rfl
    obtain ⟨cur, hat, _, _, _, hm, hcl, htk⟩ := hr.to_at
    have hgx : bx ≠ g := fun e => hne (by rw [e]; rfl)
    have hcs : ∀ (j : Nat) (u : Value), (l.map (Value.int .i64))[j]? = some u → w.cell? ⟨g, 0 + j, none⟩ = some u := fun j u hu => by
      rw [Nat.zero_add]
      refine hat.cell j ?_
      rw [← htk, List.getElem?_take] at hu
      split at hu
      · exact hu
      · cases hu
    have hsome : ∀ j, j < cap → (w.cell? ⟨g, 0 + j, none⟩).isSome = true := fun j hj => by
      rw [Nat.zero_add, hat.cell j (List.getElem?_eq_getElem (by omega))]
      rfl
    have hfz : ∀ j, w.frozen? ⟨g, j, none⟩ = false := fun j => hat.frozen j
    have hll : (l.map (Value.int .i64)).length = l.length := List.length_map ..
    have hm2 : cap ≤ 9223372036854775807 := by unfold maxLen at hm; omega
    have hown : ∀ k, (Value.slice (some ⟨g, 0, none⟩) l.length cap).ownBlock = some k ↔ k = g := fun k => by simp [Value.ownBlock, eq_comm]
    by_cases hie : i = l.length
    · subst hie
      have hins : insI l l.length x = l ++ [x] := by unfold insI; rw [List.take_length, List.drop_length]
      by_cases hroom : l.length + 1 ≤ cap
      · refine (Any2.slices_Insert_int_end_room Try.insert g 0 l.length cap bx 0 1 1 [.int .i64 x] w (by omega) hroom hm2 rfl (fun j hj => by have := hsome (l.length + j) (by omega); rwa [← Nat.add_assoc] at this) (fun j _ => hfz _) hxc hx1).mono fun e w' ⟨h1, h2⟩ => ⟨_, h1, ?_, ?_, ?_⟩
        · subst h2
          rw [← hlen]
          refine IRow.of_at (At.setCells _ _ _ _ hat) hgb (by omega) hm ?_ ?_
          · rw [wl_eq _ _ _ (by simp; omega)]
            simp
            omega
          · rw [wl_eq _ _ _ (by simp; omega), hlen, hins, Nat.zero_add, htk, List.map_append, List.take_left' (by simp)]
            rfl
        · subst h2
          exact Chg.setCells (fun _ => by simp [Value.ownBlock]) _ _ _ (Chg.refl _ w)
        · intro k hk
          exact .inl (by simpa [Value.ownBlock] using hk)
      · refine (Any2.slices_Insert_int_end_grow Try.insert (some ⟨g, 0, none⟩) l.length cap bx 0 1 1 (l.map (.int .i64)) [.int .i64 x] w (by omega) hcap (by omega) (by omega) hll rfl (fun h => by cases h) (fun a ha j u hu => by cases ha; rw [addr_add]; exact hcs j u hu) hxc hx1).mono fun e w' ⟨h1, h2⟩ => ⟨_, h1, ?_, ?_, ?_⟩
        · rw [insT] at h1 h2
          subst h2
          have hg := grownCap_ge w (l.length + 1) cap 3
          have hgm := grownCap_le_maxLen w (l.length + 1) cap 3 (by unfold maxLen; omega)
          rw [insT]
          generalize grownCap w (l.length + 1) cap 3 = G at *
          rw [← hlen]
          refine IRow.of_at (At.newArr w.drew _ 3) hb0 (by omega) hgm ?_ ?_
          · simp [size_zeroCells, Value.cells]
            omega
          · rw [hlen, hins, List.map_append]
            simp
            exact take_app hll
        · subst h2
          exact ((Chg.refl _ w).drew).alloc _
        · intro k hk
          simp [Value.ownBlock] at hk
          exact .inr (by omega)
    · have hi' : i < l.length := by omega
      by_cases hroom : l.length + 1 ≤ cap
      · refine (Any2.slices_Insert_int_shift Try.insert g 0 l.length cap i bx 0 1 1 (l.map (.int .i64)) [.int .i64 x] w hi' (by omega) hroom hm2 hgx hll rfl hcs (fun j hj => hsome j (by omega)) (fun j _ => hfz _) hxc (oneC l) hx1 3 3 1 cur.length hx.shape hat.shape (by omega) (hx.frozen 0) (hx.frozen 1)).mono fun e w' ⟨h1, h2⟩ => ⟨_, h1, ?_, ?_, ?_⟩
        · subst h2
          rw [← hlen]
          refine IRow.of_at (At.setCells _ _ _ _ (At.setCells _ _ _ _ hat.drew)) hgb (by omega) hm ?_ ?_
          · rw [wl_len _ _ _ (by rw [wl_len _ _ _ (by simp; omega)]; simp; omega), wl_len _ _ _ (by simp; omega)]
            exact hcl
          · rw [hlen, hmap, ← hll]
            exact shift_eq (by rw [hll]; exact htk) (by omega) (by omega)
        · subst h2
          exact Chg.setCells (fun _ => by simp [Value.ownBlock]) _ _ _ (Chg.setCells (fun _ => by simp [Value.ownBlock]) _ _ _ (Chg.refl _ w).drew)
        · intro k hk
          exact .inl (by simpa [Value.ownBlock] using hk)
      · refine (Any2.slices_Insert_int_grow Try.insert g 0 l.length cap i bx 0 1 1 (l.map (.int .i64)) [.int .i64 x] w hi' (by omega) hcap (by omega) (by omega) hll rfl hcs hxc (oneC l) hx1).mono fun e w' ⟨h1, h2⟩ => ⟨_, h1, ?_, ?_, ?_⟩
        · rw [insT] at h1 h2
          subst h2
          have hg := grownCap_ge w (l.length + 1) cap 3
          have hgm := grownCap_le_maxLen w (l.length + 1) cap 3 (by unfold maxLen; omega)
          rw [insT]
          generalize grownCap w (l.length + 1) cap 3 = G at *
          have hl0 : ((((l.map (Value.int .i64)).take i).toArray ++ Builtin.zeroCells (Value.int .i64 0).cells (l.length + 1 - i) ++ Builtin.zeroCells (Value.int .i64 0).cells (G - (l.length + 1))).toList).length = G := by
            simp [size_zeroCells, Value.cells]
            omega
          have ht0 : ((((l.map (Value.int .i64)).take i).toArray ++ Builtin.zeroCells (Value.int .i64 0).cells (l.length + 1 - i) ++ Builtin.zeroCells (Value.int .i64 0).cells (G - (l.length + 1))).toList).take i = (l.map (Value.int .i64)).take i := by
            rw [Array.toList_append, Array.toList_append, List.append_assoc]
            exact List.take_left' (by simp; omega)
          generalize ((l.map (Value.int .i64)).take i).toArray ++ Builtin.zeroCells (Value.int .i64 0).cells (l.length + 1 - i) ++ Builtin.zeroCells (Value.int .i64 0).cells (G - (l.length + 1)) = arr at *
          rw [← hlen]
          refine IRow.of_at (At.setCells _ _ _ _ (At.setCells _ _ _ _ (At.newArr w arr 3).drew).drew) hb0 (by omega) hgm ?_ ?_
          · have hsz : arr.size = G := by simpa using hl0
            rw [wl_len _ _ _ (by rw [wl_len _ _ _ (by simp; omega)]; simp; omega), wl_len _ _ _ (by simp; omega)]
            exact hl0
          · rw [hlen, hmap, ← hll]
            exact grow_eq ht0 (by omega) (by omega)
        · subst h2
          exact (Chg.setCells (fun h => absurd h (Nat.lt_irrefl _)) _ _ _ (Chg.setCells (fun h => absurd h (Nat.lt_irrefl _)) _ _ _ ((Chg.refl _ w).alloc _).drew).drew)
        · intro k hk
          simp [Value.ownBlock] at hk
          exact .inr (by omega)
end Go.Proofs.Ythpnhndligblaaa
