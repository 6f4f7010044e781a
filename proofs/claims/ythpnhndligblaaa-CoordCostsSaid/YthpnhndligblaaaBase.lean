/- Laws of this session's own, over any program: a map's block as a list of pairs ('MapIs'), a block of cells known whole ('At'), a frame by a set of blocks ('Chg'). Conditions: none. -/
import Derived.WalkKit
import Derived.WalkSpells
import Derived.WalkLawsBesides
import Derived.Lib.Hide
import Derived.Maps.Keyed
import Derived.Maps.Own
import Derived.Maps.OwnOps
import Derived.Maps.OwnSet
import Derived.Maps.RangeWalk
import Derived.BigQuiet
import Derived.Deep.QuietTactic
import Derived.StillTailTactics
import Derived.BigRegion
import Derived.DeepKeys4
import Derived.Laws.AppendOwnNone
namespace Go.Proofs.Ythpnhndligblaaa
open Go.RowKit Go.Maps

/-- A halt for the walk: 'refine stop ?_' in an arm; 'unfold Stop' behind it. -/
def Stop (p : Prop) : Prop := p
theorem stop {p : Prop} (h : Stop p) : p := h
theorem ret_i {k : IntKind} {a b : Int} (h : a = b) : Ending.returned (.int k a) = .returned (.int k b) := by rw [h]
theorem ret_b {a b : Bool} (h : a = b) : Ending.returned (.bool a) = .returned (.bool b) := by rw [h]

/-! ### the frame -/
/-- From w to w' only blocks of S (and new ones) have turned. -/
structure Chg (S : Nat → Prop) (w w' : World) : Prop where
  os : w'.os = w.os
  tape : w'.tape = w.tape
  output : w'.output = w.output
  size : w.heap.size ≤ w'.heap.size
  block : ∀ k, k < w.heap.size → ¬ S k → w'.heap[k]? = w.heap[k]?

def NoB : Nat → Prop := fun _ => False
theorem Chg.refl (S : Nat → Prop) (w : World) : Chg S w w := ⟨rfl, rfl, rfl, Nat.le_refl _, fun _ _ _ => rfl⟩
theorem Chg.mono {S T : Nat → Prop} {w w' : World} (h : Chg S w w') (hs : ∀ k, k < w.heap.size → S k → T k) : Chg T w w' :=
  ⟨h.os, h.tape, h.output, h.size, fun k hk ht => h.block k hk (fun s => ht (hs k hk s))⟩
theorem Chg.trans {S T : Nat → Prop} {a b c : World} (h : Chg S a b) (k : Chg T b c) (hT : ∀ j, j < a.heap.size → T j → S j) : Chg S a c :=
  ⟨k.os.trans h.os, k.tape.trans h.tape, k.output.trans h.output, Nat.le_trans h.size k.size,
   fun i hi hn => (k.block i (Nat.lt_of_lt_of_le hi h.size) (fun t => hn (hT i hi t))).trans (h.block i hi hn)⟩
theorem Chg.drew {S : Nat → Prop} {a w : World} (h : Chg S a w) : Chg S a w.drew := ⟨h.os, h.tape, h.output, h.size, h.block⟩
theorem Chg.drewN {S : Nat → Prop} {a w : World} (h : Chg S a w) (n : Nat) : Chg S a (w.drewN n) := ⟨h.os, h.tape, h.output, h.size, h.block⟩
theorem Chg.alloc {S : Nat → Prop} {a w : World} (h : Chg S a w) (o : Obj) : Chg S a (w.alloc o) :=
  ⟨h.os, h.tape, h.output, Nat.le_trans h.size (by simp), fun k hk hn => (Below.heap_alloc _ _ _ (Nat.lt_of_lt_of_le hk h.size)).trans (h.block k hk hn)⟩
theorem Chg.setCell {S : Nat → Prop} {a w : World} (h : Chg S a w) {p : Addr} (hp : p.block < a.heap.size → S p.block) (u : Value) : Chg S a (w.setCell p u) :=
  ⟨h.os, h.tape, h.output, Nat.le_trans h.size (by simp [World.setCell]), fun k hk hn => (Below.heap_setCell _ _ _ _ (fun e => hn (by rw [e]; exact hp (by rw [← e]; exact hk)))).trans (h.block k hk hn)⟩
theorem Chg.grown {S : Nat → Prop} {a w w' : World} {row : Option Nat} (h : Chg S a w) (g : w.grownBy w' row) (hr : ∀ k, row = some k → k < a.heap.size → S k) : Chg S a w' :=
  ⟨g.os.trans h.os, g.tape.trans h.tape, g.output.trans h.output, Nat.le_trans h.size g.size,
   fun k hk hn => (g.block k (Nat.lt_of_lt_of_le hk h.size) (fun e => hn (hr k e.symm hk))).trans (h.block k hk hn)⟩
theorem Chg.below {B : Nat} {w w' : World} {S : Nat → Prop} (h : Chg S w w') (hB : B ≤ w.heap.size) (hs : ∀ k, S k → B ≤ k) : Below B w w' :=
  ⟨h.os, h.tape, h.output, h.size, fun k hk => h.block k (Nat.lt_of_lt_of_le hk hB) (fun s => absurd (hs k s) (Nat.not_le_of_lt hk))⟩
theorem Chg.of_below {w w' : World} (h : Below w.heap.size w w') : Chg NoB w w' := ⟨h.os, h.tape, h.output, h.size, fun k hk _ => h.block k hk⟩
theorem Chg.cell {S : Nat → Prop} {w w' : World} (h : Chg S w w') {p : Addr} {v : Value} (hv : w.cell? p = some v) (hp : ¬ S p.block) : w'.cell? p = some v :=
  (World.cell?_of_block (w := w) (h.block p.block (World.block_lt_of_cell? w p hv) hp)).trans hv

/-! ### a block of cells, known whole -/
def At (w : World) (b : Nat) (cs : List Value) (T : TypeId) : Prop := w.heap[b]? = some (.cells cs.toArray T (0, 0))
theorem At.lt {w : World} {b : Nat} {cs : List Value} {T : TypeId} (h : At w b cs T) : b < w.heap.size := (Array.getElem?_eq_some_iff.1 h).1
theorem At.cell {w : World} {b : Nat} {cs : List Value} {T : TypeId} (h : At w b cs T) (i : Nat) {v : Value} (hv : cs[i]? = some v) : w.cell? ⟨b, i, none⟩ = some v := by
  unfold At at h
  simp [World.cell?, h, hv]
theorem At.frozen {w : World} {b : Nat} {cs : List Value} {T : TypeId} (h : At w b cs T) (i : Nat) : w.frozen? ⟨b, i, none⟩ = false := by
  unfold At at h
  simp [World.frozen?, h]
theorem At.chg {S : Nat → Prop} {w w' : World} {b : Nat} {cs : List Value} {T : TypeId} (h : At w b cs T) (g : Chg S w w') (hb : ¬ S b) : At w' b cs T :=
  (g.block b h.lt hb).trans h
theorem At.grown {w w' : World} {row : Option Nat} {b : Nat} {cs : List Value} {T : TypeId} (h : At w b cs T) (g : w.grownBy w' row) (hb : row ≠ some b) : At w' b cs T :=
  (g.block b h.lt (fun e => hb e.symm)).trans h
theorem At.drew {w : World} {b : Nat} {cs : List Value} {T : TypeId} (h : At w b cs T) : At w.drew b cs T := h
theorem At.alloc {w : World} {b : Nat} {cs : List Value} {T : TypeId} (h : At w b cs T) (o : Obj) : At (w.alloc o) b cs T := (Below.heap_alloc w o b h.lt).trans h
theorem At.new (w : World) (cs : List Value) (T : TypeId) : At (w.alloc (.cells cs.toArray T)) w.heap.size cs T := heap_alloc_new w _
theorem At.newAt {w : World} {cs : List Value} {T : TypeId} {b : Nat} (h : b = w.heap.size) : At (w.alloc (.cells cs.toArray T)) b cs T := h ▸ At.new w cs T
theorem At.setCell_other {w : World} {b : Nat} {cs : List Value} {T : TypeId} (h : At w b cs T) {p : Addr} (hp : b ≠ p.block) (u : Value) : At (w.setCell p u) b cs T :=
  (Below.heap_setCell w p u b hp).trans h
theorem At.setCell {w : World} {b : Nat} {cs : List Value} {T : TypeId} (h : At w b cs T) (i : Nat) (u : Value) : At (w.setCell ⟨b, i, none⟩ u) b (cs.set i u) T := by
  unfold At at h ⊢
  simp [World.setCell, Array.getElem?_modify, h]

/-! ### a world known by what holds of it -/
theorem wp_world {P : Program} {c : Code} {Q : Exit → Act → World → Prop} {a : Act} {w : World} (I : World → Prop) (hI : I w) (h : ∀ W, I W → c.wp P Q a W) : c.wp P Q a w := h w hI
theorem wpl_world {P : Program} {ops : Array Oper} {l : List Oper} {Q : Exit → Act → World → Prop} {a : Act} {w : World} (I : World → Prop) (hI : I w) (h : ∀ W, I W → wpList P ops Q l a W) : wpList P ops Q l a w := h w hI
/-- A region that draws: n operations that only read, in whatever order, then the rest in its own. -/
theorem wp_tail_world {P : Program} {id : Nat} {Q : Exit → Act → World → Prop} {a : Act} {w : World} {l : List Oper} (n : Nat) (hm : P.follows .mixedOrders = true) (hB : Region.lexTailB .any l.toArray n = true)
    (I : World → Prop) (hI : I w.drew) (h : ∀ W, I W → wpStill P l.toArray W (fun a' => wpList P l.toArray Q (l.drop n) a' W) (l.take n) a) : (Code.region id l.toArray true).wp P Q a w :=
  wp_region_still_tail n hm hB (h _ hI)
/-- A region that draws and only reads. -/
theorem wp_still_world {P : Program} {id : Nat} {Q : Exit → Act → World → Prop} {a : Act} {w : World} {l : List Oper} (hm : P.follows .mixedOrders = true) (hB : Region.lexB .any l.toArray = true)
    (I : World → Prop) (hI : I w.drew) (h : ∀ W, I W → wpStill P l.toArray W (fun a' => Q .normal a' W) l a) : (Code.region id l.toArray true).wp P Q a w :=
  wp_region_still_lit hm hB (h _ hI)

theorem wpStill_skip {P : Program} {ops : Array Oper} {w : World} {Q : Act → Prop} {a : Act} {o : Oper} {rest : List Oper} (hw : Region.wanted o (yielded ops a.tmps) = false) (h : wpStill P ops w Q rest (a.put o.dst undef)) : wpStill P ops w Q (o :: rest) a := by
  unfold wpStill
  rw [if_neg (by rw [hw]; exact Bool.false_ne_true)]
  exact h

theorem still_of_quiet {P : Program} {w : World} {o : Oper} {a : Act} {K : Act → Prop} (h : o.quiet P a (fun w' => w' = w) K) : o.still P a w K := by
  obtain ⟨v, h1, h2⟩ := h
  have h3 := h1 w rfl
  unfold Oper.quietAt at h3
  unfold Oper.still
  generalize (execOp a.eval o).run P w = r at *
  cases r with
  | ok n w' =>
    cases n <;> simp only [Oper.quietUpon] at h3 <;> simp only [Oper.stillUpon]
    case value u => obtain ⟨rfl, rfl⟩ := h3; exact ⟨rfl, h2⟩
    case skip => obtain ⟨rfl, rfl⟩ := h3; exact ⟨rfl, h2⟩
    case enter f args => exact ⟨h3.1, v, h3.2, h2⟩
  | halt x w' => simp only [Oper.quietUpon] at h3
theorem wpStill_of_quiet {P : Program} {ops : Array Oper} {w : World} {Q : Act → Prop} : ∀ (l : List Oper) (a : Act), wpQuiet P ops (fun w' => w' = w) Q l a → wpStill P ops w Q l a
  | [], _, h => h
  | o :: rest, a, h => by
    unfold wpQuiet at h
    unfold wpStill
    by_cases hw : Region.wanted o (yielded ops a.tmps) = true
    · rw [if_pos hw] at h ⊢
      exact Oper.still_mono (fun a' => wpStill_of_quiet rest a') (still_of_quiet h)
    · rw [if_neg hw] at h ⊢
      exact wpStill_of_quiet rest _ h
/-- A region that draws: n operations that only read, in whatever order, then the rest in its own. -/
theorem wp_tail_quiet {P : Program} {id : Nat} {Q : Exit → Act → World → Prop} {a : Act} {w : World} {l : List Oper} (n : Nat) (hm : P.follows .mixedOrders = true) (hB : Region.lexTailB .any l.toArray n = true)
    (I : World → Prop) (hI : I w.drew) (h : ∀ W, I W → wpQuiet P l.toArray (fun w' => w' = W) (fun a' => wpList P l.toArray Q (l.drop n) a' W) (l.take n) a) : (Code.region id l.toArray true).wp P Q a w :=
  wp_tail_world n hm hB I hI fun W hW => wpStill_of_quiet _ _ (h W hW)
theorem wp_quiet_world {P : Program} {id : Nat} {Q : Exit → Act → World → Prop} {a : Act} {w : World} {l : List Oper} (hm : P.follows .mixedOrders = true) (hB : Region.lexB .any l.toArray = true)
    (I : World → Prop) (hI : I w.drew) (h : ∀ W, I W → wpQuiet P l.toArray (fun w' => w' = W) (fun a' => Q .normal a' W) l a) : (Code.region id l.toArray true).wp P Q a w :=
  wp_still_world hm hB I hI fun W hW => wpStill_of_quiet _ _ (h W hW)

/-! ### a map's block, as a list of pairs -/
section
variable {κ ν : Type} {P : Program} {k : TypeId} {enc : κ → Value} {val : ν → Value}

/-- Block b is a map whose entries are, in the order in which they came, the pairs of l; no key twice; each a key of its type. -/
def MapIs (P : Program) (k : TypeId) (enc : κ → Value) (val : ν → Value) (w : World) (b : Nat) (l : List (κ × ν)) : Prop :=
  ∃ es clock, w.heap[b]? = some (.map es clock) ∧ es.toList.map (fun e => (e.key, e.val)) = l.map (fun p => (enc p.1, val p.2)) ∧ (l.map (·.1)).Nodup ∧
    (∀ p ∈ l, ∃ kl, keyOf P k (enc p.1) = some kl) ∧ (∀ e ∈ es.toList, e.born < clock) ∧ (es.toList.map (·.born)).Nodup

theorem MapIs.lt {w : World} {b : Nat} {l : List (κ × ν)} (h : MapIs P k enc val w b l) : b < w.heap.size := by
  obtain ⟨es, clock, hb, _⟩ := h
  exact (Array.getElem?_eq_some_iff.1 hb).1
theorem MapIs.nodup {w : World} {b : Nat} {l : List (κ × ν)} (h : MapIs P k enc val w b l) : (l.map (·.1)).Nodup := by
  obtain ⟨es, clock, hb, _, h, _⟩ := h; exact h
theorem MapIs.of_heap {w w' : World} {b : Nat} {l : List (κ × ν)} (h : MapIs P k enc val w b l) (e : w'.heap[b]? = w.heap[b]?) : MapIs P k enc val w' b l := by
  obtain ⟨es, clock, hb, r⟩ := h
  exact ⟨es, clock, e.trans hb, r⟩
theorem MapIs.chg {S : Nat → Prop} {w w' : World} {b : Nat} {l : List (κ × ν)} (h : MapIs P k enc val w b l) (g : Chg S w w') (hb : ¬ S b) : MapIs P k enc val w' b l :=
  h.of_heap (g.block b h.lt hb)
theorem MapIs.grown {w w' : World} {row : Option Nat} {b : Nat} {l : List (κ × ν)} (h : MapIs P k enc val w b l) (g : w.grownBy w' row) (hb : row ≠ some b) : MapIs P k enc val w' b l :=
  h.of_heap (g.block b h.lt (fun e => hb e.symm))
theorem MapIs.alloc {w : World} {b : Nat} {l : List (κ × ν)} (h : MapIs P k enc val w b l) (o : Obj) : MapIs P k enc val (w.alloc o) b l := h.of_heap (Below.heap_alloc w o b h.lt)
theorem MapIs.drew {w : World} {b : Nat} {l : List (κ × ν)} (h : MapIs P k enc val w b l) : MapIs P k enc val w.drew b l := h
theorem MapIs.setCell {w : World} {b : Nat} {l : List (κ × ν)} (h : MapIs P k enc val w b l) {p : Addr} (hp : b ≠ p.block) (u : Value) : MapIs P k enc val (w.setCell p u) b l := h.of_heap (Below.heap_setCell w p u b hp)
theorem MapIs.made (w : World) : MapIs P k enc val (w.alloc (.map #[] 0)) w.heap.size [] :=
  ⟨#[], 0, heap_alloc_new w _, by simp, by simp, by simp, by simp, by simp⟩
/-- A map's block is no block of cells. -/
theorem MapIs.ne_at {w : World} {b b' : Nat} {l : List (κ × ν)} {cs : List Value} {T : TypeId} (h : MapIs P k enc val w b l) (h' : At w b' cs T) : b ≠ b' := by
  rintro rfl
  obtain ⟨es, clock, hb, _⟩ := h
  unfold At at h'
  rw [hb] at h'
  cases h'

variable [DecidableEq κ]

omit [DecidableEq κ] in
/-- What is found: the element's place and the element. -/
theorem MapIs.find {l : List (κ × ν)} (K : Keyed P k) (hinj : ∀ x y, enc x = enc y → x = y) {es : Array MapEntry} (hes : es.toList.map (fun e => (e.key, e.val)) = l.map (fun p => (enc p.1, val p.2)))
    (hkeys : ∀ p ∈ l, ∃ kl, keyOf P k (enc p.1) = some kl) {x : κ} (hx : ∃ kl, keyOf P k (enc x) = some kl) (w : World) :
    ((Instr.findKey k (enc x) es.toList).run P w = .ok none w ∧ x ∉ l.map (·.1)) ∨
    ∃ (j : Nat) (v : ν) (e : MapEntry), (Instr.findKey k (enc x) es.toList).run P w = .ok (some (j, val v)) w ∧ l[j]? = some (x, v) ∧ es[j]? = some e ∧ e.key = enc x ∧ e.val = val v := by
  obtain ⟨kl, hkl⟩ := hx
  have hall : ∀ e ∈ es.toList, ∃ l, keyOf P k e.key = some l := by
    intro e he
    have : (e.key, e.val) ∈ es.toList.map (fun e => (e.key, e.val)) := List.mem_map.2 ⟨e, he, rfl⟩
    rw [hes] at this
    obtain ⟨p, hp, hpe⟩ := List.mem_map.1 this
    obtain ⟨kl', h'⟩ := hkeys p hp
    simp only [Prod.mk.injEq] at hpe
    exact ⟨kl', by rw [← hpe.1]; exact h'⟩
  have get : ∀ (j : Nat) (e : MapEntry), es.toList[j]? = some e → ∃ p : κ × ν, l[j]? = some p ∧ e.key = enc p.1 ∧ e.val = val p.2 := by
    intro j e he
    have h1 : (es.toList.map (fun e => (e.key, e.val)))[j]? = some (e.key, e.val) := by simp [List.getElem?_map, he]
    rw [hes, List.getElem?_map] at h1
    cases hp : l[j]? with
    | none => simp [hp] at h1
    | some p => simp [hp] at h1; exact ⟨p, rfl, h1.1.symm, h1.2.symm⟩
  rcases K.find w hkl es.toList hall with ⟨h1, h2⟩ | ⟨j, e, h1, h2, h3⟩
  · refine .inl ⟨h1, fun hm => ?_⟩
    obtain ⟨p, hp, rfl⟩ := List.mem_map.1 hm
    have : (enc p.1, val p.2) ∈ l.map (fun p => (enc p.1, val p.2)) := List.mem_map.2 ⟨p, hp, rfl⟩
    rw [← hes] at this
    obtain ⟨e, he, hpe⟩ := List.mem_map.1 this
    simp only [Prod.mk.injEq] at hpe
    exact h2 e he hpe.1
  · obtain ⟨p, hp, hk1, hv1⟩ := get j e h2
    have hx : p.1 = x := hinj _ _ (hk1.symm.trans h3)
    refine .inr ⟨j, p.2, e, by rw [h1, hv1], by rw [hp, ← hx], by simpa using h2, h3, hv1⟩

/-- What the pairs hold at x. -/
def mget (l : List (κ × ν)) (x : κ) : Option ν := l.lookup x
theorem lookup_of_getElem? {l : List (κ × ν)} (hn : (l.map (·.1)).Nodup) {j : Nat} {x : κ} {v : ν} (h : l[j]? = some (x, v)) : mget l x = some v := by
  unfold mget
  induction l generalizing j with
  | nil => simp at h
  | cons p l ih =>
    obtain ⟨h1, h2⟩ := List.nodup_cons.1 hn
    cases j with
    | zero => simp at h; subst h; simp [List.lookup]
    | succ j =>
      simp at h
      have : x ≠ p.1 := fun e => h1 (List.mem_map.2 ⟨(x, v), List.mem_of_getElem? h, e⟩)
      obtain ⟨a, b⟩ := p
      simp only [List.lookup, beq_eq_false_iff_ne.2 this]
      exact ih h2 h
theorem lookup_none {l : List (κ × ν)} {x : κ} (h : x ∉ l.map (·.1)) : mget l x = none := by
  unfold mget
  induction l with
  | nil => rfl
  | cons p l ih =>
    obtain ⟨a, b⟩ := p
    simp only [List.map_cons, List.mem_cons, not_or] at h
    simp only [List.lookup, beq_eq_false_iff_ne.2 h.1]
    exact ih h.2
theorem lookup_mem {l : List (κ × ν)} {x : κ} {v : ν} (h : mget l x = some v) : (x, v) ∈ l := by
  unfold mget at h
  induction l with
  | nil => simp at h
  | cons p l ih =>
    obtain ⟨a, b⟩ := p
    by_cases e : x = a
    · subst e; simp [List.lookup] at h; subst h; simp
    · simp only [List.lookup, beq_eq_false_iff_ne.2 e] at h
      exact List.mem_cons_of_mem _ (ih h)

theorem mget_isSome {l : List (κ × ν)} {x : κ} : (mget l x).isSome = true ↔ x ∈ l.map (·.1) := by
  constructor
  · intro h
    obtain ⟨v, hv⟩ := Option.isSome_iff_exists.1 h
    exact List.mem_map.2 ⟨(x, v), lookup_mem hv, rfl⟩
  · intro h
    cases hv : mget l x with
    | some v => rfl
    | none =>
      exfalso
      obtain ⟨p, hp, rfl⟩ := List.mem_map.1 h
      unfold mget at hv
      have := List.lookup_eq_none_iff.1 hv p hp
      simp at this

/-- The looked-up value, as the model hands it out. -/
def found (val : ν → Value) (z : Value) (c : Bool) : Option ν → Value
  | some v => if c then .tuple #[val v, .bool true] else val v
  | none => if c then .tuple #[z, .bool false] else z

omit [DecidableEq κ] in
theorem found_ok (z : ν) (r : Option ν) : found val (val z) true r = .tuple #[val (r.getD z), .bool r.isSome] := by cases r <;> rfl

theorem MapIs.look {w : World} {b : Nat} {l : List (κ × ν)} {t e : TypeId} (h : MapIs P k enc val w b l) (K : Keyed P k) (hinj : ∀ x y, enc x = enc y → x = y) (ht : P.underlying t = some (.map k e)) {z : Value} (hz : ∀ w, (zeroValue e).run P w = .ok z w)
    {x : κ} (hx : ∃ kl, keyOf P k (enc x) = some kl) (c : Bool) : (Instr.lookup t (.map (some b)) (enc x) c).run P w = .ok (found val z c (mget l x)) w := by
  obtain ⟨es, clock, hb, hes, hn, hk, _⟩ := h
  obtain ⟨kl, hkl⟩ := hx
  rcases MapIs.find K hinj hes hk ⟨kl, hkl⟩ w with ⟨h1, h2⟩ | ⟨j, v, e0, h1, h2, h3, h4, h5⟩
  · rw [lookup_none h2]
    cases c <;> simp [Instr.lookup, found, run_underlying ht, MapKept.run_getObj_map hb, K.check w _ hkl, h1, hz, Result.andThen]
  · rw [lookup_of_getElem? hn h2]
    cases c <;> simp [Instr.lookup, found, run_underlying ht, MapKept.run_getObj_map hb, K.check w _ hkl, h1, Result.andThen]

/-- 'm[x] = v': in its place, or at the end. -/
def mput (l : List (κ × ν)) (x : κ) (v : ν) : List (κ × ν) := if x ∈ l.map (·.1) then l.map (fun p => if p.1 = x then (x, v) else p) else l ++ [(x, v)]
def mdel (l : List (κ × ν)) (x : κ) : List (κ × ν) := l.filter (fun p => p.1 ≠ x)

theorem map_set_of_nodup {l : List (κ × ν)} (hn : (l.map (·.1)).Nodup) {j : Nat} {x : κ} {v v' : ν} (h : l[j]? = some (x, v)) : l.map (fun p => if p.1 = x then (x, v') else p) = l.set j (x, v') := by
  induction l generalizing j with
  | nil => simp at h
  | cons p l ih =>
    obtain ⟨h1, h2⟩ := List.nodup_cons.1 hn
    cases j with
    | zero =>
      simp at h; subst h
      simp only [List.map_cons, if_true, List.set_cons_zero, List.cons.injEq, true_and]
      refine (List.map_congr_left (fun q hq => ?_)).trans (List.map_id _)
      rw [if_neg (fun e => h1 (List.mem_map.2 ⟨q, hq, e⟩))]; rfl
    | succ j =>
      simp at h
      have : p.1 ≠ x := fun e => h1 (List.mem_map.2 ⟨(x, v), List.mem_of_getElem? h, e.symm⟩)
      simp only [List.map_cons, if_neg this, List.set_cons_succ, List.cons.injEq, true_and]
      exact ih h2 h
theorem filter_erase_of_nodup {l : List (κ × ν)} (hn : (l.map (·.1)).Nodup) {j : Nat} {x : κ} {v : ν} (h : l[j]? = some (x, v)) : mdel l x = l.eraseIdx j := by
  unfold mdel
  induction l generalizing j with
  | nil => simp at h
  | cons p l ih =>
    obtain ⟨h1, h2⟩ := List.nodup_cons.1 hn
    cases j with
    | zero =>
      simp at h; subst h
      simp only [ne_eq, not_true_eq_false, decide_false, Bool.false_eq_true, not_false_eq_true, List.filter_cons_of_neg, List.eraseIdx_cons_zero]
      refine List.filter_eq_self.2 (fun q hq => ?_)
      have : q.1 ≠ x := fun e => h1 (List.mem_map.2 ⟨q, hq, e⟩)
      simpa using this
    | succ j =>
      simp at h
      have : p.1 ≠ x := fun e => h1 (List.mem_map.2 ⟨(x, v), List.mem_of_getElem? h, e.symm⟩)
      rw [List.filter_cons_of_pos (by simpa using this), List.eraseIdx_cons_succ, ih h2 h]
theorem mdel_none {l : List (κ × ν)} {x : κ} (h : x ∉ l.map (·.1)) : mdel l x = l := by
  unfold mdel
  refine List.filter_eq_self.2 (fun q hq => ?_)
  have : q.1 ≠ x := fun e => h (List.mem_map.2 ⟨q, hq, e⟩)
  simpa using this
theorem mput_keys {l : List (κ × ν)} {x : κ} {v : ν} : (mput l x v).map (·.1) = if x ∈ l.map (·.1) then l.map (·.1) else l.map (·.1) ++ [x] := by
  unfold mput
  split
  · rw [List.map_map]
    refine List.map_congr_left (fun q _ => ?_)
    by_cases e : q.1 = x <;> simp [e]
  · simp
theorem mput_nodup {l : List (κ × ν)} {x : κ} {v : ν} (hn : (l.map (·.1)).Nodup) : ((mput l x v).map (·.1)).Nodup := by
  rw [mput_keys]
  split
  · exact hn
  · rename_i h
    rw [List.nodup_append]
    exact ⟨hn, by simp, fun a ha b hb e => h (by simp at hb; subst hb; subst e; exact ha)⟩

theorem MapIs.store {w : World} {b : Nat} {l : List (κ × ν)} {t e : TypeId} (h : MapIs P k enc val w b l) (K : Keyed P k) (hinj : ∀ x y, enc x = enc y → x = y) (ht : P.underlying t = some (.map k e))
    {x : κ} (hx : ∃ kl, keyOf P k (enc x) = some kl) (v : ν) : ∃ w', (Instr.mapUpdate t (.map (some b)) (enc x) (val v)).run P w = .ok () w' ∧ MapIs P k enc val w' b (mput l x v) ∧ w.grownBy w' (some b) := by
  obtain ⟨es, clock, hb, hes, hn, hk, hst, hbn⟩ := h
  obtain ⟨kl, hkl⟩ := hx
  rcases MapIs.find K hinj hes hk ⟨kl, hkl⟩ w with ⟨h1, h2⟩ | ⟨j, v0, e0, h1, h2, h3, h4, h5⟩
  · refine ⟨ChangeMaps.setBlock w b (.map (es.push ⟨enc x, val v, clock⟩) (clock + 1)), ?_, ⟨_, _, ChangeMaps.heap_setBlock_same hb _, ?_, mput_nodup hn, ?_, ?_, ?_⟩, ⟨rfl, rfl, rfl, by simp [ChangeMaps.setBlock], fun i _ hi => ChangeMaps.heap_setBlock_other hb _ (fun e => hi (by rw [e]))⟩⟩
    · simp [Instr.mapUpdate, run_underlying ht, MapKept.run_getObj_map hb, K.check w false hkl, h1, MapKept.run_setObj_map _ hb, Result.andThen, ChangeMaps.setBlock]
    · unfold mput
      rw [if_neg h2]
      simp [hes]
    · intro p hp
      unfold mput at hp
      rw [if_neg h2] at hp
      rcases List.mem_append.1 hp with hp | hp
      · exact hk p hp
      · simp at hp; subst hp; exact ⟨kl, hkl⟩
    · intro e1 he
      simp at he
      rcases he with he | rfl
      · have := hst e1 (by simpa using he); omega
      · simp
    · simp only [Array.toList_push, List.map_append, List.map_cons, List.map_nil]
      rw [List.nodup_append]
      exact ⟨hbn, by simp, fun a ha c hc e => by
        simp at hc; subst hc; subst e
        obtain ⟨e1, he1, rfl⟩ := List.mem_map.1 ha
        exact absurd (hst e1 he1) (Nat.lt_irrefl _)⟩
  · have hmem : x ∈ l.map (·.1) := List.mem_map.2 ⟨(x, v0), List.mem_of_getElem? h2, rfl⟩
    have hlist : (es.modify j (fun e' => { e' with key := enc x, val := val v })).toList = es.toList.set j { e0 with key := enc x, val := val v } := by
      rw [Array.toList_modify, ChangeMaps.modify_eq_set _ _ _ _ (by simpa using h3)]
    refine ⟨ChangeMaps.setBlock w b (.map (es.modify j (fun e' => { e' with key := enc x, val := val v })) clock), ?_, ⟨_, _, ChangeMaps.heap_setBlock_same hb _, ?_, mput_nodup hn, ?_, ?_, ?_⟩, ⟨rfl, rfl, rfl, by simp [ChangeMaps.setBlock], fun i _ hi => ChangeMaps.heap_setBlock_other hb _ (fun e => hi (by rw [e]))⟩⟩
    · simp [Instr.mapUpdate, run_underlying ht, MapKept.run_getObj_map hb, K.check w false hkl, h1, h3, h4, K.stays w hkl, MapKept.run_setObj_map _ hb, Result.andThen, ChangeMaps.setBlock]
    · rw [hlist, List.map_set, hes]
      unfold mput
      rw [if_pos hmem, map_set_of_nodup hn h2, List.map_set]
    · intro p hp
      unfold mput at hp
      rw [if_pos hmem] at hp
      obtain ⟨q, hq, rfl⟩ := List.mem_map.1 hp
      by_cases e1 : q.1 = x
      · simp only [e1, if_true]; exact ⟨kl, hkl⟩
      · simp only [e1, if_false]; exact hk q hq
    · intro e1 he
      rw [hlist] at he
      have h0 : e0 ∈ es.toList := List.mem_of_getElem? (i := j) (by simpa using h3)
      rcases List.mem_or_eq_of_mem_set he with he | rfl
      · exact hst e1 he
      · exact hst e0 h0
    · rw [hlist, List.map_set]
      have : (es.toList.map (·.born)).set j e0.born = es.toList.map (·.born) := by
        apply List.ext_getElem?
        intro i
        rw [List.getElem?_set]
        split
        · rename_i hij
          subst hij
          have : es.toList[j]? = some e0 := by simpa using h3
          rw [List.getElem?_map, this]
          split
          · rfl
          · rename_i hlt
            simp at hlt
            have := (List.getElem?_eq_some_iff.1 this).1
            simp at this
            omega
        · rfl
      rw [show ({ e0 with key := enc x, val := val v } : MapEntry).born = e0.born from rfl, this]
      exact hbn

theorem MapIs.drop {w : World} {b : Nat} {l : List (κ × ν)} {t e ty : TypeId} (h : MapIs P k enc val w b l) (K : Keyed P k) (hinj : ∀ x y, enc x = enc y → x = y) (ht : P.underlying t = some (.map k e))
    {x : κ} (hx : ∃ kl, keyOf P k (enc x) = some kl) : ∃ w', (Builtin.delete_ #[t, k] ty #[.map (some b), enc x]).run P w = .ok (.tuple #[]) w' ∧ MapIs P k enc val w' b (mdel l x) ∧ w.grownBy w' (some b) := by
  obtain ⟨es, clock, hb, hes, hn, hk, hst, hbn⟩ := h
  obtain ⟨kl, hkl⟩ := hx
  rcases MapIs.find K hinj hes hk ⟨kl, hkl⟩ w with ⟨h1, h2⟩ | ⟨j, v0, e0, h1, h2, h3, h4, h5⟩
  · refine ⟨ChangeMaps.setBlock w b (.map es clock), ?_, ⟨_, _, ChangeMaps.heap_setBlock_same hb _, ?_, ?_, ?_, hst, hbn⟩, ⟨rfl, rfl, rfl, by simp [ChangeMaps.setBlock], fun i _ hi => ChangeMaps.heap_setBlock_other hb _ (fun e => hi (by rw [e]))⟩⟩
    · simp [Builtin.delete_, run_underlying ht, MapKept.run_getObj_map hb, K.check w _ hkl, h1, MapKept.run_setObj_map _ hb, Result.andThen, ChangeMaps.setBlock]
    all_goals rw [mdel_none h2]
    · exact hes
    · exact hn
    · exact hk
  · have hjs : j < es.size := (Array.getElem?_eq_some_iff.1 h3).1
    have hsub : (es.eraseIdxIfInBounds j).toList = es.toList.eraseIdx j := by
      unfold Array.eraseIdxIfInBounds
      rw [dif_pos hjs]
      simp
    have hsl : (mdel l x).Sublist l := List.filter_sublist
    refine ⟨ChangeMaps.setBlock w b (.map (es.eraseIdxIfInBounds j) clock), ?_, ⟨_, _, ChangeMaps.heap_setBlock_same hb _, ?_, ?_, ?_, ?_, ?_⟩, ⟨rfl, rfl, rfl, by simp [ChangeMaps.setBlock], fun i _ hi => ChangeMaps.heap_setBlock_other hb _ (fun e => hi (by rw [e]))⟩⟩
    · simp [Builtin.delete_, run_underlying ht, MapKept.run_getObj_map hb, K.check w _ hkl, h1, MapKept.run_setObj_map _ hb, Result.andThen, ChangeMaps.setBlock]
    · rw [hsub, filter_erase_of_nodup hn h2, ChangeMaps.map_eraseIdx, ChangeMaps.map_eraseIdx, hes]
    · exact hn.sublist (hsl.map _)
    · exact fun p hp => hk p (hsl.subset hp)
    · intro e1 he
      rw [hsub] at he
      exact hst e1 ((List.eraseIdx_sublist _ _).subset he)
    · rw [hsub]
      exact hbn.sublist ((List.eraseIdx_sublist _ _).map _)

omit [DecidableEq κ] in
theorem MapIs.len {w : World} {b : Nat} {l : List (κ × ν)} {t e ty : TypeId} (h : MapIs P k enc val w b l) (ht : P.underlying t = some (.map k e)) : (Builtin.len_ #[t] ty #[.map (some b)]).run P w = .ok (.int .i64 l.length) w := by
  obtain ⟨es, clock, hb, hes, _⟩ := h
  have : es.size = l.length := by
    have := congrArg List.length hes
    simpa using this
  simp [Builtin.len_, run_underlying ht, MapKept.run_getObj_map hb, Result.andThen, goInt, this]

/-! ### the laws at the operations -/
variable {ops : Array Oper} {rest : List Oper} {o : Oper} {a : Act} {Q : Exit → Act → World → Prop} {w : World} {b : Nat} {l : List (κ × ν)} {t e : TypeId}
theorem wpList_look (hown : MapIs P k enc val w b l) (K : Keyed P k) (hinj : ∀ x y, enc x = enc y → x = y) (ht : P.underlying t = some (.map k e)) {z : Value} (hz : ∀ w, (zeroValue e).run P w = .ok z w)
    (hg : o.guard = none) (m x : Operand) (c : Bool) (hop : o.op = Op.lookup t m x c) (hm : a.eval m = .map (some b)) (x0 : κ) (hx : a.eval x = enc x0) (hkey : ∃ kl, keyOf P k (enc x0) = some kl)
    (r : Value) (hr : found val z c (mget l x0) = r) (h : wpList P ops Q rest (a.put o.dst r) w) : wpList P ops Q (o :: rest) a w := by
  refine wpList_plain hg fun K' hK' => ?_
  have hrun := hown.look K hinj ht hz hkey c
  unfold Oper.wp
  simp [execOp, hop, hm, hx, hrun, hr, Result.andThen]
  exact hK' _ _ h
theorem wpList_store (hown : MapIs P k enc val w b l) (K : Keyed P k) (hinj : ∀ x y, enc x = enc y → x = y) (ht : P.underlying t = some (.map k e))
    (hg : o.guard = none) (m x v : Operand) (hop : o.op = Op.mapUpdate t m x v) (hm : a.eval m = .map (some b)) (x0 : κ) (hx : a.eval x = enc x0) (v0 : ν) (hv : a.eval v = val v0) (hkey : ∃ kl, keyOf P k (enc x0) = some kl)
    (h : ∀ w', MapIs P k enc val w' b (mput l x0 v0) → w.grownBy w' (some b) → wpList P ops Q rest (a.put o.dst undef) w') : wpList P ops Q (o :: rest) a w := by
  refine wpList_plain hg fun K' hK' => ?_
  obtain ⟨w', hrun, r1, r2⟩ := hown.store K hinj ht hkey v0
  unfold Oper.wp
  simp [execOp, hop, hm, hx, hv, hrun, Result.andThen]
  exact hK' _ _ (h w' r1 r2)
theorem wpList_drop (hown : MapIs P k enc val w b l) (K : Keyed P k) (hinj : ∀ x y, enc x = enc y → x = y) (ht : P.underlying t = some (.map k e))
    (hg : o.guard = none) (m x : Operand) (hop : o.op = Op.call { callee := .builtin .delete, args := #[m, x], argTypes := #[t, k] }) (hm : a.eval m = .map (some b)) (x0 : κ) (hx : a.eval x = enc x0) (hkey : ∃ kl, keyOf P k (enc x0) = some kl)
    (h : ∀ w', MapIs P k enc val w' b (mdel l x0) → w.grownBy w' (some b) → wpList P ops Q rest (a.put o.dst (.tuple #[])) w') : wpList P ops Q (o :: rest) a w := by
  refine wpList_plain hg fun K' hK' => ?_
  obtain ⟨w', hrun, r1, r2⟩ := hown.drop (ty := o.type) K hinj ht hkey
  unfold Oper.wp
  simp [execOp, hop, hm, hx, hrun, resolve, invoke, builtin, Result.andThen]
  exact hK' _ _ (h w' r1 r2)
end

/-! ### rows -/
section
variable {P : Program} {α : Type} {k : Nat} {e : TypeId} {enc : α → List Value}
/-- The slice value v owns a row from block number base on, and holds l. -/
def RowOf (w : World) (base : Nat) (e : TypeId) (k : Nat) (enc : α → List Value) (v : Value) (l : List α) : Prop := w.ownsRow base e k v l.length (l.flatMap enc)
theorem RowOf.nil (w : World) (base : Nat) : RowOf w base e k enc (.slice none 0 0) [] := World.ownsRow_nil w base e k
theorem RowOf.shape {w : World} {base : Nat} {v : Value} {l : List α} (h : RowOf w base e k enc v l) : ∃ ao cap, v = .slice ao l.length cap ∧ l.length ≤ cap ∧ (ao = none → l = [] ∧ cap = 0) ∧ (∀ ad, ao = some ad → ∃ g, ad = ⟨g, 0, none⟩ ∧ base ≤ g ∧ g < w.heap.size) := by
  rcases h.2 with ⟨rfl, h0⟩ | ⟨g, cap, cur, rfl, hb, hg, hc, _⟩
  · have : l = [] := List.eq_nil_of_length_eq_zero h0
    subst this
    exact ⟨none, 0, rfl, Nat.le_refl _, fun _ => ⟨rfl, rfl⟩, fun _ h => by cases h⟩
  · exact ⟨some ⟨g, 0, none⟩, cap, rfl, hc, (fun h => by cases h), fun ad h => ⟨g, (Option.some.inj h).symm, hb, (Array.getElem?_eq_some_iff.1 hg).1⟩⟩
theorem RowOf.slice {w : World} {base : Nat} {v : Value} {l : List α} (h : RowOf w base e k enc v l) : ∃ ao n cap, v = .slice ao n cap := by
  obtain ⟨ao, cap, hv, _⟩ := h.shape
  exact ⟨ao, _, cap, hv⟩
theorem RowOf.chg {S : Nat → Prop} {w w' : World} {base : Nat} {v : Value} {l : List α} (h : RowOf w base e k enc v l) (c : Chg S w w') (hv : ∀ g, v.ownBlock = some g → ¬ S g) : RowOf w' base e k enc v l := by
  refine ⟨h.1, ?_⟩
  rcases h.2 with h0 | ⟨g, cap, cur, rfl, hb, hg, r⟩
  · exact .inl h0
  · exact .inr ⟨g, cap, cur, rfl, hb, (c.block g (Array.getElem?_eq_some_iff.1 hg).1 (hv g rfl)).trans hg, r⟩
theorem RowOf.mono {w : World} {base base' : Nat} {v : Value} {l : List α} (h : RowOf w base e k enc v l) (hb : base' ≤ base) : RowOf w base' e k enc v l := by
  refine ⟨h.1, ?_⟩
  rcases h.2 with h0 | ⟨g, cap, cur, rfl, hb', r⟩
  · exact .inl h0
  · exact .inr ⟨g, cap, cur, rfl, Nat.le_trans hb hb', r⟩
theorem RowOf.ge {w : World} {base : Nat} {v : Value} {l : List α} (h : RowOf w base e k enc v l) : ∀ g, v.ownBlock = some g → base ≤ g ∧ g < w.heap.size := World.ownsRow.lt h
theorem RowOf.drew {w : World} {base : Nat} {v : Value} {l : List α} (h : RowOf w base e k enc v l) : RowOf w.drew base e k enc v l := h
theorem RowOf.alloc {w : World} {base : Nat} {v : Value} {l : List α} (h : RowOf w base e k enc v l) (o : Obj) : RowOf (w.alloc o) base e k enc v l := World.ownsRow.alloc h o
theorem RowOf.grown {w w' : World} {row : Option Nat} {base : Nat} {v : Value} {l : List α} (h : RowOf w base e k enc v l) (g : w.grownBy w' row) (hv : ∀ g, v.ownBlock = some g → row ≠ some g) : RowOf w' base e k enc v l :=
  World.ownsRow.kept h g (by cases hb : v.ownBlock with | none => exact .inl rfl | some b => exact .inr (fun e => hv b hb e.symm))
theorem flat_get (hk : ∀ x, (enc x).length = k) (l : List α) (j i : Nat) (a : α) (h : l[j]? = some a) (hi : i < k) : (l.flatMap enc)[j * k + i]? = (enc a)[i]? := by
  induction l generalizing j with
  | nil => simp at h
  | cons b l ih =>
    cases j with
    | zero => simp at h; subst h; simp [List.getElem?_append_left, hk, hi]
    | succ j =>
      simp at h
      have e1 : (j + 1) * k + i = (enc b).length + (j * k + i) := by rw [hk, Nat.add_mul]; omega
      rw [List.flatMap_cons, e1, List.getElem?_append_right (by omega), show (enc b).length + (j * k + i) - (enc b).length = j * k + i by omega]
      exact ih j h
theorem flat_length (hk : ∀ x, (enc x).length = k) (l : List α) : (l.flatMap enc).length = l.length * k := by
  induction l with
  | nil => simp
  | cons a l ih => rw [List.flatMap_cons, List.length_append, hk, ih, List.length_cons, Nat.add_mul]; omega
theorem addr_add (g n j : Nat) : (⟨g, n, none⟩ : Addr).add j = ⟨g, n + j, none⟩ := by unfold Addr.add; split <;> simp_all
/-- A cell of an element. -/
theorem RowOf.cell {w : World} {base g n cap : Nat} {l : List α} (h : RowOf w base e k enc (.slice (some ⟨g, 0, none⟩) n cap) l) (hk : ∀ x, (enc x).length = k) {j i : Nat} {a : α} {u : Value} (ha : l[j]? = some a) (hu : (enc a)[i]? = some u) : w.cell? ⟨g, j * k + i, none⟩ = some u := by
  have hi : i < k := by rw [← hk a]; exact (List.getElem?_eq_some_iff.1 hu).1
  have := World.ownsRow.cells h (g := g) rfl (j * k + i) u (by rw [flat_get hk l j i a ha hi, hu])
  rwa [addr_add, Nat.zero_add] at this
theorem RowOf.cell0 {w : World} {base g n cap : Nat} {l : List α} (h : RowOf w base e k enc (.slice (some ⟨g, 0, none⟩) n cap) l) (hk : ∀ x, (enc x).length = k) {j : Nat} {a : α} {u : Value} (ha : l[j]? = some a) (hu : (enc a)[0]? = some u) : w.cell? ⟨g, j * k, none⟩ = some u :=
  h.cell hk (i := 0) ha hu
theorem RowOf.frozen {w : World} {base g n cap : Nat} {l : List α} (h : RowOf w base e k enc (.slice (some ⟨g, 0, none⟩) n cap) l) (i : Nat) : w.frozen? ⟨g, i, none⟩ = false := by
  rcases h.2 with ⟨h0, _⟩ | ⟨g', cap', cur, h0, _, hg, _⟩
  · cases h0
  · cases h0
    simp [World.frozen?, hg]

/-- What an append reads: m elements, l, at the address ao. -/
structure SrcOf (w : World) (enc : α → List Value) (ao : Option Addr) (m c : Nat) (l : List α) : Prop where
  len : l.length = m
  nil : ao = none → m = 0 ∧ c = 0
  cells : ∀ ad, ao = some ad → ∀ j u, (l.flatMap enc)[j]? = some u → w.cell? (ad.add j) = some u
theorem RowOf.take {w : World} {base n cap : Nat} {ao : Option Addr} {l : List α} (h : RowOf w base e k enc (.slice ao n cap) l) (i : Nat) (hi : i ≤ l.length) : SrcOf w enc ao i cap (l.take i) := by
  obtain ⟨ao', cap', hv, _, hn, hs⟩ := h.shape
  cases hv
  refine ⟨by simp; omega, fun h0 => ?_, fun ad had j u hu => ?_⟩
  · obtain ⟨rfl, rfl⟩ := hn h0
    simp at hi
    exact ⟨hi, rfl⟩
  · obtain ⟨g, rfl, _⟩ := hs ad had
    subst had
    refine World.ownsRow.cells h (g := g) rfl j u ?_
    have hj := (List.getElem?_eq_some_iff.1 hu).1
    rw [← hu]
    conv => lhs; rw [← List.take_append_drop i l, List.flatMap_append]
    rw [List.getElem?_append_left hj]
theorem RowOf.drop {w : World} {base n cap : Nat} {ao : Option Addr} {l : List α} (h : RowOf w base e k enc (.slice ao n cap) l) (hk : ∀ x, (enc x).length = k) (i : Nat) (hi : i ≤ l.length) {ao' : Option Addr} {m c : Nat} (hm : m = l.length - i)
    (hn : ao' = none → m = 0 ∧ c = 0) (ha : ∀ g, ao = some ⟨g, 0, none⟩ → i < l.length → ao' = some ⟨g, i * k, none⟩) : SrcOf w enc ao' m c (l.drop i) := by
  subst hm
  refine ⟨by simp, hn, fun ad had j u hu => ?_⟩
  obtain ⟨ao'', cap', hv, _, hn', hs⟩ := h.shape
  cases hv
  have hj := (List.getElem?_eq_some_iff.1 hu).1
  have hlt : i < l.length := by
    refine Nat.lt_of_not_le fun hle => ?_
    rw [List.drop_eq_nil_of_le hle] at hj
    simp at hj
  cases ao with
  | none => have := (hn' rfl).1; subst this; simp at hlt
  | some ad0 =>
    obtain ⟨g, rfl, _⟩ := hs ad0 rfl
    have := ha g rfl hlt
    rw [this] at had
    cases had
    have hc := World.ownsRow.cells h (g := g) rfl (i * k + j) u (by
      rw [← hu]
      conv => lhs; rw [← List.take_append_drop i l, List.flatMap_append]
      rw [List.getElem?_append_right (by rw [flat_length hk]; simp; rw [Nat.min_eq_left hi]; omega), flat_length hk]
      congr 1
      simp
      rw [Nat.min_eq_left hi]
      omega)
    rw [addr_add] at hc ⊢
    simpa using hc
theorem RowOf.drop_at {w : World} {base n cap g : Nat} {l : List α} (h : RowOf w base e k enc (.slice (some ⟨g, 0, none⟩) n cap) l) (hk : ∀ x, (enc x).length = k) (i c : Nat) (hi : i ≤ l.length) : SrcOf w enc (some ⟨g, i * k, none⟩) (l.length - i) c (l.drop i) :=
  h.drop hk i hi rfl (fun h0 => by cases h0) (fun g' hg _ => by cases hg; rfl)
theorem SrcOf.left {w : World} {ad : Addr} {l : List α} {i c : Nat} (hi : l.length ≤ i) : SrcOf w enc (some ad) (l.length - i) c (l.drop i) :=
  ⟨by simp, (fun h0 => by cases h0), fun _ _ j u hu => by rw [List.drop_eq_nil_of_le hi] at hu; simp at hu⟩
/-- The one-element source that the translation lays ahead of 'append(s, x)'. -/
theorem SrcOf.one {w : World} {b : Nat} {a : α} {T : TypeId} (h : At w b (enc a) T) : SrcOf w enc (some ⟨b, 0, none⟩) 1 1 [a] :=
  ⟨rfl, (fun h => by cases h), fun ad had j u hu => by
    cases had
    rw [addr_add, Nat.zero_add]
    exact h.cell j (by simpa using hu)⟩
theorem wpList_app {w : World} {ops : Array Oper} {rest : List Oper} {o : Oper} {a : Act} {Q : Exit → Act → World → Prop} {base : Nat} {v : Value} {l : List α} {ao : Option Addr} {m c : Nat} {l2 : List α}
    (hown : RowOf w base e k enc v l) (hsrc : SrcOf w enc ao m c l2) (hk : ∀ x, (enc x).length = k) (h1 : ∀ x, ∀ u ∈ enc x, u.oneCell' = true) (hsz : 0 < k)
    (t : TypeId) (i : TypeInfo) (z : Value) (bytes : Nat) (ht : P.underlying t = some (.slice e)) (hi : P.info? e = some i) (hz : i.zero = some z) (hsize : i.size = k) (hby : i.bytes = bytes) (hzs : z.cells.size = k)
    (hgd : o.guard = none) (s x : Operand) (ho : o.op = .call { callee := .builtin .append, args := #[s, x], argTypes := #[t, t] }) (hs : a.eval s = v) (hx : a.eval x = .slice ao m c)
    (h63 : l.length + m ≤ maxLen) (hbytes : (l.length + m) * bytes ≤ 140737488355328) (hbase : base ≤ w.heap.size)
    (h : ∀ v' w', RowOf w' base e k enc v' (l ++ l2) → w.grownBy w' v.ownBlock → (v' = .slice none 0 0 ↔ v = .slice none 0 0 ∧ m = 0) → wpList P ops Q rest (a.put o.dst v') w') : wpList P ops Q (o :: rest) a w := by
  cases ao with
  | none =>
    obtain ⟨rfl, rfl⟩ := hsrc.nil rfl
    have : l2 = [] := List.eq_nil_of_length_eq_zero hsrc.len
    subst this
    refine wpList_append_own_none hgd s x t ho base e i k ht hi v l.length _ hs hown hx (h v w (by rw [List.append_nil]; exact hown) ⟨rfl, rfl, rfl, Nat.le_refl _, fun _ _ _ => rfl⟩ ?_)
    simp
  | some ad =>
    refine wpList_append_own w hgd s x t ho base e i z k bytes ht hi hz hsize hby hzs hsz v l.length _ hs hown ad m c (l2.flatMap enc) hx (by rw [flat_length hk, hsrc.len]) (hsrc.cells ad rfl) (fun u hu => ?_) h63 hbytes hbase (fun v' w' r1 r2 r3 => h v' w' ?_ r2 r3)
    · obtain ⟨x0, _, hx0⟩ := List.mem_flatMap.1 hu
      exact h1 x0 u hx0
    · unfold RowOf
      rw [List.length_append, hsrc.len, List.flatMap_append]
      exact r1
end
end Go.Proofs.Ythpnhndligblaaa
