/- Who asks at each tick: plain lists. Conditions: none. -/
import Derived.Test.YtgpholdeiahldaaPl2
namespace Go.Proofs.Ytgpholdeiahldaa
open Go.RowKit Go.Maps
theorem mput_mem {κ ν : Type} [DecidableEq κ] {l : List (κ × ν)} (hn : (l.map (·.1)).Nodup) {x : κ} {v : ν} {p : κ × ν} : p ∈ mput l x v ↔ p = (x, v) ∨ (p ∈ l ∧ p.1 ≠ x) := by
  rw [(mput_perm hn x v).mem_iff, List.mem_cons]
  unfold mdel
  rw [List.mem_filter]
  simp
/-- The first i of the transactions have been started. -/
structure Begun (xs : List Int) (from_ : Int) (i : Nat) (l : List (Key × Alarm)) : Prop where
  there : ∀ x ∈ xs.take i, ((x, (2 : Int)), (⟨x, 2, from_ + 4, 0⟩ : Alarm)) ∈ l
  keys : ∀ p ∈ l, p.1.2 = 2 ∧ p.1.1 ∈ xs
  good : Good 0 l
  len : l.length ≤ i
theorem Begun.nil (xs : List Int) (from_ : Int) : Begun xs from_ 0 [] := ⟨by simp, by simp, by intro p hp; simp at hp, by simp⟩
theorem Begun.step {xs : List Int} {from_ : Int} {i : Nat} {l : List (Key × Alarm)} {x : Int} (h : Begun xs from_ i l) (hn : (l.map (·.1)).Nodup) (hx : xs[i]? = some x) (hb : ¬ badStart x 2 from_) : Begun xs from_ (i + 1) (mput l (x, 2) ⟨x, 2, from_ + 4, 0⟩) := by
  have hlt := (List.getElem?_eq_some_iff.1 hx).1
  have hxe := (List.getElem?_eq_some_iff.1 hx).2
  refine ⟨fun y hy => ?_, fun p hp => ?_, ?_, ?_⟩
  · rw [mput_mem hn]
    rw [List.take_succ_eq_append_getElem hlt, List.mem_append] at hy
    by_cases hyx : y = x
    · subst hyx; exact .inl rfl
    · right
      refine ⟨h.there y ?_, fun e => hyx (by simpa using e)⟩
      rcases hy with hy | hy
      · exact hy
      · simp at hy; exact absurd (hy.trans hxe) hyx
  · rcases (mput_mem hn).1 hp with rfl | ⟨hp, _⟩
    · exact ⟨rfl, List.mem_of_getElem? hx⟩
    · exact h.keys p hp
  · exact h.good.start hn (Int.le_refl 0) x 2 from_ hb
  · exact Nat.le_trans (mput_len _ _ _) (by have := h.len; omega)
/-- Each transaction has its alarm; when it was heard last, and when it will be heard next, is known. K: ticks that are over. -/
def Asks (xs : List Int) (from_ K : Int) (l : List (Key × Alarm)) (la nx : List Int) : Prop :=
  ∀ (i : Nat) x, xs[i]? = some x → ∃ a y, ((x, (2 : Int)), a) ∈ l ∧ nx[i]? = some a.at_ ∧ la[i]? = some y ∧ from_ + K < a.at_ ∧ a.at_ ≤ from_ + y + 64 ∧ 0 ≤ y ∧ y ≤ K
theorem Begun.asks {xs : List Int} {from_ : Int} {l : List (Key × Alarm)} (h : Begun xs from_ xs.length l) : Asks xs from_ 0 l (List.replicate xs.length 0) (List.replicate xs.length (from_ + 4)) := by
  intro i x hx
  have hlt := (List.getElem?_eq_some_iff.1 hx).1
  refine ⟨⟨x, 2, from_ + 4, 0⟩, 0, h.there x ?_, ?_, ?_, ?_, ?_, ?_, ?_⟩
  · rw [List.take_length]
    exact List.mem_of_getElem? hx
  · simp [hlt]
  · simp [hlt]
  · simp only; omega
  · simp only; omega
  · exact Int.le_refl 0
  · exact Int.le_refl 0
/-- What holds at the beginning of tick k. -/
structure Tick (xs : List Int) (from_ stop k : Int) (l : List (Key × Alarm)) (la nx : List Int) (dead : Bool) : Prop where
  la_len : la.length = xs.length
  nx_len : nx.length = xs.length
  la_in : ∀ (i : Nat) y, la[i]? = some y → 0 ≤ y ∧ y ≤ k - 1
  nx_in : ∀ (i : Nat) y, nx[i]? = some y → I64 y
  good : Good (k - 1) l
  len : l.length ≤ 20
  keys : ∀ p ∈ l, p.1.2 = 2 ∧ p.1.1 ∈ xs
  live : dead = false → Asks xs from_ (k - 1) l la nx
  over : dead = true → l = []
/-- What the rounds over the alarms that were due do to 'last' and 'next'. D: those that have been gone through. -/
def Told (xs : List Int) (k : Int) (D : List Alarm) (la nx la' nx' : List Int) (i : Nat) : Prop :=
  ∀ x, xs[i]? = some x → (∃ a ∈ D, a.tx = x ∧ la'[i]? = some k ∧ nx'[i]? = some a.at_) ∨ ((∀ a ∈ D, a.tx ≠ x) ∧ la'[i]? = la[i]? ∧ nx'[i]? = nx[i]?)
theorem due_find {xs : List Int} {l : List (Key × Alarm)} {d : List Alarm} {now : Int} (hn : (l.map (·.1)).Nodup) (hg : ∀ p ∈ l, p.1 = keyA p.2) (hk : ∀ p ∈ l, p.1.2 = 2 ∧ p.1.1 ∈ xs) (hd : d.Perm (dueL l now)) {x : Int} {a0 : Alarm} (h0 : ((x, (2 : Int)), a0) ∈ l) :
    ∀ a ∈ d.map (upd now), a.tx = x → a = upd now a0 ∧ a0.at_ ≤ now := by
  intro a ha hx
  obtain ⟨b, hb, rfl⟩ := List.mem_map.1 ha
  have hb2 := hd.mem_iff.1 hb
  unfold dueL at hb2
  obtain ⟨hb3, hb4⟩ := List.mem_filter.1 hb2
  obtain ⟨p, hp, rfl⟩ := List.mem_map.1 hb3
  have h1 := hg p hp
  have h2 := (hk p hp).1
  have h3 : p.1 = (x, 2) := by
    rw [h1] at h2 ⊢
    simp only [keyA] at h2 ⊢
    rw [h2]
    rw [show p.2.tx = x from hx]
  obtain ⟨j, hj⟩ := List.getElem?_of_mem hp
  obtain ⟨j', hj'⟩ := List.getElem?_of_mem h0
  have e1 := lookup_of_getElem? (x := p.1) (v := p.2) hn hj
  have e2 := lookup_of_getElem? hn hj'
  rw [h3, e2] at e1
  have e3 := Option.some.inj e1
  rw [e3]
  exact ⟨rfl, by simpa using hb4⟩
theorem due_has {l : List (Key × Alarm)} {d : List Alarm} {now : Int} (hd : d.Perm (dueL l now)) {x : Int} {a0 : Alarm} (h0 : ((x, (2 : Int)), a0) ∈ l) (hx : a0.tx = x) (h : a0.at_ ≤ now) : ∃ a ∈ d.map (upd now), a.tx = x := by
  refine ⟨upd now a0, List.mem_map.2 ⟨a0, ?_, rfl⟩, hx⟩
  rw [hd.mem_iff]
  unfold dueL
  exact List.mem_filter.2 ⟨List.mem_map.2 ⟨_, h0, rfl⟩, by simpa using h⟩
theorem laterI_eq {now d : Int} (h : now + d ≤ 1099511627776) (hd : 0 < d) : laterI now d = now + d := by
  unfold laterI
  rw [if_neg (by omega)]
  omega
/-- A tick goes by. -/
theorem Asks.tick {xs : List Int} {from_ K : Int} {l : List (Key × Alarm)} {la nx la' nx' : List Int} {d : List Alarm} (h : Asks xs from_ K l la nx) (hK : 0 ≤ K) (hf : 0 ≤ from_) (hf2 : from_ + (K + 1) + 64 ≤ 1099511627776) (hn : (l.map (·.1)).Nodup) (hg : ∀ p ∈ l, p.1 = keyA p.2)
    (hk : ∀ p ∈ l, p.1.2 = 2 ∧ p.1.1 ∈ xs) (hd : d.Perm (dueL l (from_ + (K + 1)))) (ht : ∀ i, Told xs (K + 1) (d.map (upd (from_ + (K + 1)))) la nx la' nx' i) :
    Asks xs from_ (K + 1) (putAll l (d.map (upd (from_ + (K + 1))))) la' nx' := by
  intro i x hx
  obtain ⟨a, y, h1, h2, h3, h4, h5, h6, h7⟩ := h i x hx
  rw [putAll_due hn hg hd]
  have hax : a.tx = x := by
    have := hg _ h1
    simp only [keyA, Prod.mk.injEq] at this
    exact this.1.symm
  have hmem : ((x, (2 : Int)), hearI (from_ + (K + 1)) a) ∈ l.map (fun p => (p.1, hearI (from_ + (K + 1)) p.2)) := List.mem_map.2 ⟨_, h1, rfl⟩
  have hdp := (delayI_pow (a.tries + 1)).bd
  rcases ht i x hx with ⟨b, hb, hbx, e1, e2⟩ | ⟨hno, e1, e2⟩
  · obtain ⟨rfl, hle⟩ := due_find hn hg hk hd h1 b hb hbx
    unfold hearI at hmem
    rw [if_pos hle] at hmem
    have hl := laterI_eq (now := from_ + (K + 1)) (d := delayI (a.tries + 1)) (by omega) (by omega)
    refine ⟨_, K + 1, hmem, e2, e1, ?_, ?_, by omega, by omega⟩
    · simp only [upd]; omega
    · simp only [upd]; omega
  · have hle : ¬ a.at_ ≤ from_ + (K + 1) := by
      intro hle
      obtain ⟨b, hb, hbx⟩ := due_has hd h1 hax hle
      exact hno b hb hbx
    unfold hearI at hmem
    rw [if_neg hle] at hmem
    exact ⟨a, y, hmem, by rw [e2]; exact h2, by rw [e1]; exact h3, by omega, h5, h6, by omega⟩
/-- The alarms that are due are of different transactions. -/
theorem due_tx {xs : List Int} {l : List (Key × Alarm)} {d : List Alarm} {now : Int} (hn : (l.map (·.1)).Nodup) (hg : ∀ p ∈ l, p.1 = keyA p.2) (hk : ∀ p ∈ l, p.1.2 = 2 ∧ p.1.1 ∈ xs) (hd : d.Perm (dueL l now)) : ((d.map (upd now)).map (·.tx)).Nodup := by
  rw [List.map_map]
  have e0 : (d.map (Alarm.tx ∘ upd now)) = d.map (·.tx) := rfl
  show (d.map (Alarm.tx ∘ upd now)).Nodup
  rw [e0]
  refine ((hd.map _).nodup_iff).2 ?_
  unfold dueL
  refine List.Nodup.sublist (List.filter_sublist.map _) ?_
  rw [List.map_map]
  have e1 : l.map (·.1) = (l.map (Alarm.tx ∘ fun p => p.2)).map (fun t => (t, (2 : Int))) := by
    rw [List.map_map]
    refine List.map_congr_left fun p hp => ?_
    have h1 := hg p hp
    have h2 := (hk p hp).1
    rw [h1] at h2 ⊢
    simp only [keyA] at h2 ⊢
    simp [h2]
  rw [e1] at hn
  exact List.Pairwise.of_map _ (fun a b h e => h (by rw [e])) hn
/-- The check ahead of time is never met. -/
theorem Asks.early {xs : List Int} {from_ K : Int} {l : List (Key × Alarm)} {la nx la' nx' : List Int} {d : List Alarm} (h : Asks xs from_ K l la nx) (hn : (l.map (·.1)).Nodup) (hg : ∀ p ∈ l, p.1 = keyA p.2) (hk : ∀ p ∈ l, p.1.2 = 2 ∧ p.1.1 ∈ xs)
    (hd : d.Perm (dueL l (from_ + (K + 1)))) {i j : Nat} {x y : Int} {a : Alarm} (hj : (d.map (upd (from_ + (K + 1))))[j]? = some a) (hx : xs[i]? = some x) (hax : a.tx = x) (ht : Told xs (K + 1) ((d.map (upd (from_ + (K + 1)))).take j) la nx la' nx' i) (hy : nx'[i]? = some y) :
    y ≤ from_ + (K + 1) := by
  obtain ⟨a0, z, h1, h2, h3, h4, h5, h6, h7⟩ := h i x hx
  obtain ⟨rfl, hle⟩ := due_find hn hg hk hd h1 a (List.mem_of_getElem? hj) hax
  rcases ht x hx with ⟨b, hb, hbx, e1, e2⟩ | ⟨hno, e1, e2⟩
  · exfalso
    have hnd := due_tx hn hg hk hd
    obtain ⟨m, hm⟩ := List.getElem?_of_mem hb
    rw [List.getElem?_take] at hm
    split at hm
    · rename_i hmj
      have hjl := (List.getElem?_eq_some_iff.1 hj).1
      have hml := (List.getElem?_eq_some_iff.1 hm).1
      refine (List.pairwise_iff_getElem.1 hnd) m j (by simpa using hml) (by simpa using hjl) hmj ?_
      have f1 : ((d.map (upd (from_ + (K + 1)))).map (·.tx))[m]? = some x := by rw [List.getElem?_map, hm]; simp [hbx]
      have f2 : ((d.map (upd (from_ + (K + 1)))).map (·.tx))[j]? = some x := by rw [List.getElem?_map, hj]; simp [hax]
      exact (List.getElem?_eq_some_iff.1 f1).2.trans (List.getElem?_eq_some_iff.1 f2).2.symm
    · cases hm
  · rw [hy, h2] at e2
    have := Option.some.inj e2
    omega
theorem told_nil (xs : List Int) (k : Int) (la nx : List Int) (i : Nat) : Told xs k [] la nx la nx i := fun _ _ => .inr ⟨by simp, rfl, rfl⟩
theorem told_miss {xs : List Int} {k : Int} {D : List Alarm} {la nx la' nx' : List Int} {i j : Nat} {a : Alarm} {x : Int} (h : Told xs k (D.take j) la nx la' nx' i) (hj : D[j]? = some a) (hx : xs[i]? = some x) (hne : x ≠ a.tx) : Told xs k (D.take (j + 1)) la nx la' nx' i := by
  intro x' hx'
  rw [hx] at hx'
  cases hx'
  have hlt := (List.getElem?_eq_some_iff.1 hj).1
  have he := (List.getElem?_eq_some_iff.1 hj).2
  rw [List.take_succ_eq_append_getElem hlt, he]
  rcases h x hx with ⟨b, hb, h2⟩ | ⟨h1, h2⟩
  · exact .inl ⟨b, List.mem_append_left _ hb, h2⟩
  · refine .inr ⟨fun b hb => ?_, h2⟩
    rcases List.mem_append.1 hb with hb | hb
    · exact h1 b hb
    · simp at hb; subst hb; exact fun e => hne e.symm
theorem told_hit {xs : List Int} {k : Int} {D : List Alarm} {la nx la' nx' : List Int} {i j : Nat} {a : Alarm} {x : Int} (hj : D[j]? = some a) (hx : xs[i]? = some x) (he : x = a.tx) (h1 : i < la'.length) (h2 : i < nx'.length) : Told xs k (D.take (j + 1)) la nx (la'.set i k) (nx'.set i a.at_) i := by
  intro x' hx'
  rw [hx] at hx'
  cases hx'
  have hlt := (List.getElem?_eq_some_iff.1 hj).1
  refine .inl ⟨a, ?_, he.symm, List.getElem?_set_self h1, List.getElem?_set_self h2⟩
  exact List.mem_take_iff_getElem.2 ⟨j, by omega, (List.getElem?_eq_some_iff.1 hj).2⟩
theorem told_other {xs : List Int} {k y z : Int} {D : List Alarm} {la nx la' nx' : List Int} {i i' : Nat} (h : Told xs k D la nx la' nx' i') (hne : i ≠ i') : Told xs k D la nx (la'.set i y) (nx'.set i z) i' := by
  intro x hx
  rw [List.getElem?_set_ne hne, List.getElem?_set_ne hne]
  exact h x hx
/-- The tables behind the start. -/
theorem Begun.tick {xs : List Int} {from_ stop : Int} {l : List (Key × Alarm)} (h : Begun xs from_ xs.length l) (hl : xs.length ≤ 20) (hf : 0 ≤ from_ ∧ from_ ≤ 549755813888) : Tick xs from_ stop 1 l (List.replicate xs.length 0) (List.replicate xs.length (from_ + 4)) false := by
  refine ⟨by simp, by simp, fun i y hy => ?_, fun i y hy => ?_, h.good, Nat.le_trans h.len hl, h.keys, fun _ => h.asks, fun e => by cases e⟩
  · rw [List.getElem?_replicate] at hy
    split at hy
    · cases hy; omega
    · cases hy
  · rw [List.getElem?_replicate] at hy
    split at hy
    · cases hy; unfold I64; omega
    · cases hy
theorem Tick.stopped {xs : List Int} {from_ stop k : Int} {l : List (Key × Alarm)} {la nx : List Int} {b : Bool} (h : Tick xs from_ stop k l la nx b) : Tick xs from_ stop k [] la nx true :=
  ⟨h.la_len, h.nx_len, h.la_in, h.nx_in, by intro p hp; simp at hp, by simp, by simp, fun e => (by cases e), fun _ => rfl⟩
theorem putAll_nil (now : Int) {d : List Alarm} (hd : d.Perm (dueL [] now)) : d = [] ∧ putAll [] (d.map (upd now)) = [] := by
  have : d = [] := hd.eq_nil
  subst this
  exact ⟨rfl, rfl⟩
theorem Tick.next {xs : List Int} {from_ stop k : Int} {l : List (Key × Alarm)} {la nx la' nx' : List Int} {d : List Alarm} {b : Bool} (h : Tick xs from_ stop k l la nx b) (hk : 1 ≤ k) (hf : 0 ≤ from_) (hf2 : from_ + k + 64 ≤ 1099511627776) (hn : (l.map (·.1)).Nodup)
    (hd : d.Perm (dueL l (from_ + k))) (hla : la'.length = xs.length) (hnx : nx'.length = xs.length) (ht : ∀ i, Told xs k (d.map (upd (from_ + k))) la nx la' nx' i) :
    Tick xs from_ stop (k + 1) (putAll l (d.map (upd (from_ + k)))) la' nx' b := by
  have hg : ∀ p ∈ l, p.1 = keyA p.2 := fun p hp => (h.good p hp).1
  have hput := putAll_due hn hg hd
  have hgd := h.good.due hn (now := from_ + k) (by unfold I64; omega) hd
  refine ⟨hla, hnx, fun i y hy => ?_, fun i y hy => ?_, ?_, ?_, ?_, fun hb => ?_, fun hb => ?_⟩
  · have hi : i < xs.length := by rw [← hla]; exact (List.getElem?_eq_some_iff.1 hy).1
    rcases ht i xs[i] (by simp [hi]) with ⟨a, _, _, e1, _⟩ | ⟨_, e1, _⟩
    · rw [hy] at e1; cases e1; omega
    · rw [hy] at e1
      have := h.la_in i y e1.symm
      omega
  · have hi : i < xs.length := by rw [← hnx]; exact (List.getElem?_eq_some_iff.1 hy).1
    rcases ht i xs[i] (by simp [hi]) with ⟨a, ha, _, _, e2⟩ | ⟨_, _, e2⟩
    · rw [hy] at e2; cases e2
      obtain ⟨c, hc, rfl⟩ := List.mem_map.1 ha
      have hdp := (delayI_pow (c.tries + 1)).bd
      exact laterI_i64 (by unfold I64; omega) (by omega)
    · rw [hy] at e2
      exact h.nx_in i y e2.symm
  · rw [show k + 1 - 1 = k - 1 + 1 by omega]
    exact hgd
  · rw [hput, List.length_map]
    exact h.len
  · intro p hp
    rw [hput] at hp
    obtain ⟨q, hq, rfl⟩ := List.mem_map.1 hp
    exact h.keys q hq
  · have e : k = (k - 1) + 1 := by omega
    have := h.live hb
    have h2 := Asks.tick (la' := la') (nx' := nx') (d := d) this (by omega) hf (by omega) hn hg h.keys (by rw [← e]; exact hd) (by rw [← e]; exact ht)
    rw [← e] at h2
    rw [show k + 1 - 1 = k by omega]
    exact h2
  · have := h.over hb
    subst this
    exact (putAll_nil _ hd).2
/-- Nobody waits longer than 64. -/
theorem Tick.late {xs : List Int} {from_ stop k : Int} {l : List (Key × Alarm)} {la nx : List Int} (h : Tick xs from_ stop (k + 1) l la nx false) {i : Nat} {y : Int} (hy : la[i]? = some y) : k - y ≤ 64 := by
  have hi : i < xs.length := by rw [← h.la_len]; exact (List.getElem?_eq_some_iff.1 hy).1
  obtain ⟨a, z, _, _, h3, h4, h5, _, _⟩ := h.live rfl i xs[i] (by simp [hi])
  rw [hy] at h3
  cases h3
  omega
end Go.Proofs.Ytgpholdeiahldaa
