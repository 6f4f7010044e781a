/- Rows of a table as data, and the small tests of package rec and of its reference. Conditions: none but integers within int. -/
import Derived.Test.YthpnhndligblaaaRows
import Derived.Test.YthpnhndligblaaaQi
namespace Go.Proofs.Ythpnhndligblaaa
open Go.RowKit Go.Maps

theorem laid : laidOutB Try.prog = true := by kernel_rfl
def I64 (n : Int) : Prop := -9223372036854775808 ≤ n ∧ n ≤ 9223372036854775807
theorem I64.wf {n : Int} (h : I64 n) : (Lit.int .i64 n).wf = true := WalkArith.wf_i64 h
/-- A lock: its key and whether it is exclusive. -/
abbrev Lk := ByteArray × Bool
def cellsI (z : Int) : List Value := [.int .i64 z]
def cellsL (x : Lk) : List Value := [.string x.1, .bool x.2]
theorem cellsI_len (z : Int) : (cellsI z).length = 1 := rfl
theorem cellsL_len (x : Lk) : (cellsL x).length = 2 := rfl
section
variable {α : Type} {enc : α → List Value}
/-- A slice value through which l is read. -/
def Sees (w : World) (enc : α → List Value) (v : Value) (l : List α) : Prop := ∃ ao c, v = .slice ao l.length c ∧ (ao = none → l = [] ∧ c = 0) ∧ ∀ ad, ao = some ad → ∀ j u, (l.flatMap enc)[j]? = some u → w.cell? (ad.add j) = some u
theorem Sees.nil (w : World) : Sees w enc (.slice none 0 0) [] := ⟨none, 0, rfl, fun _ => ⟨rfl, rfl⟩, fun _ h => by cases h⟩
theorem Sees.chg {S : Nat → Prop} {w w' : World} {v : Value} {l : List α} (h : Sees w enc v l) (g : Chg S w w') (hS : ∀ ad n c, v = .slice (some ad) n c → l ≠ [] → ¬ S ad.block) : Sees w' enc v l := by
  obtain ⟨ao, c, rfl, hn, hc⟩ := h
  refine ⟨ao, c, rfl, hn, fun ad had j u hu => ?_⟩
  subst had
  refine g.cell (hc ad rfl j u hu) ?_
  have : l ≠ [] := by rintro rfl; simp at hu
  have hb : (ad.add j).block = ad.block := by unfold Addr.add; split <;> rfl
  rw [hb]
  exact hS ad _ _ rfl this
theorem Sees.no {w w' : World} {v : Value} {l : List α} (h : Sees w enc v l) (g : Chg NoB w w') : Sees w' enc v l := h.chg g (by simp [NoB])
theorem Sees.alloc {w : World} {v : Value} {l : List α} (h : Sees w enc v l) (o : Obj) : Sees (w.alloc o) enc v l := h.no ((Chg.refl NoB w).alloc o)
theorem Sees.src {w : World} {v : Value} {l : List α} (h : Sees w enc v l) : ∃ ao c, v = .slice ao l.length c ∧ SrcOf w enc ao l.length c l := by
  obtain ⟨ao, c, rfl, hn, hc⟩ := h
  exact ⟨ao, c, rfl, rfl, fun h => ⟨by rw [(hn h).1]; rfl, (hn h).2⟩, hc⟩
theorem Sees.shape {w : World} {v : Value} {l : List α} (h : Sees w enc v l) : ∃ ao c, v = .slice ao l.length c := by obtain ⟨ao, c, rfl, _⟩ := h; exact ⟨ao, c, rfl⟩
theorem Sees.of_row {w : World} {base : Nat} {e : TypeId} {k : Nat} {v : Value} {l : List α} (h : RowOf w base e k enc v l) : Sees w enc v l := by
  obtain ⟨ao, cap, rfl, _, hn, hs⟩ := h.shape
  exact ⟨ao, cap, rfl, hn, fun ad had j u hu => by
    obtain ⟨g, rfl, _⟩ := hs ad had
    subst had
    exact World.ownsRow.cells h (g := g) rfl j u hu⟩
/-- Where there is an element there is an address; and its cells. -/
theorem Sees.at {w : World} {v : Value} {l : List α} (h : Sees w enc v l) {k j : Nat} (hk : ∀ x, (enc x).length = k) {a : α} (ha : l[j]? = some a) : ∃ ad c, v = .slice (some ad) l.length c ∧ ∀ i u, (enc a)[i]? = some u → w.cell? (ad.add (j * k + i)) = some u := by
  obtain ⟨ao, c, rfl, hn, hc⟩ := h
  cases ao with
  | none => rw [(hn rfl).1] at ha; simp at ha
  | some ad => exact ⟨ad, c, rfl, fun i u hu => hc ad rfl _ _ (by rw [flat_get hk l j i a ha (by rw [← hk a]; exact (List.getElem?_eq_some_iff.1 hu).1), hu])⟩

theorem Sees.at_one {w : World} {v : Value} {l : List α} (h : Sees w enc v l) {j : Nat} (hk : ∀ x, (enc x).length = 1) {a : α} (ha : l[j]? = some a) {u : Value} (hu : (enc a)[0]? = some u) : ∃ ad c, v = .slice (some ad) l.length c ∧ w.cell? (ad.add j) = some u := by
  obtain ⟨ad, c, hv, hc⟩ := h.at hk ha
  exact ⟨ad, c, hv, by simpa using hc 0 u hu⟩
theorem addr_field (ad : Addr) (n i : Nat) (hi : 0 < i) : ad.add (n + i) = ⟨(ad.add n).block, (ad.add n).off + i, none⟩ := by
  unfold Addr.add
  rw [if_neg (by omega)]
  split
  · rename_i h; subst h; simp
  · simp; omega
theorem Sees.at_two {w : World} {v : Value} {l : List α} (h : Sees w enc v l) {j : Nat} (hk : ∀ x, (enc x).length = 2) {a : α} (ha : l[j]? = some a) {u u' : Value} (hu : (enc a)[0]? = some u) (hu' : (enc a)[1]? = some u') :
    ∃ ad c, v = .slice (some ad) l.length c ∧ w.cell? (ad.add (j * 2)) = some u ∧ w.cell? ⟨(ad.add (j * 2)).block, (ad.add (j * 2)).off + 1, none⟩ = some u' := by
  obtain ⟨ad, c, hv, hc⟩ := h.at hk ha
  have h1 := hc 1 u' hu'
  rw [addr_field _ _ _ (by omega)] at h1
  exact ⟨ad, c, hv, by simpa using hc 0 u hu, h1⟩
/-- Do a list's items rise, each being as it may? -/
def RF (may : α → Bool) (less : α → α → Bool) : Option α → List α → Bool
  | _, [] => true
  | p, x :: l => may x && (match p with | none => true | some q => less q x) && RF may less (some x) l
def prevAt (l : List α) : Nat → Option α
  | 0 => none
  | k + 1 => l[k]?
theorem RF_at {may : α → Bool} {less : α → α → Bool} {l : List α} {k : Nat} {x : α} (hx : l[k]? = some x) :
    RF may less (prevAt l k) (l.drop k) = (may x && (match prevAt l k with | none => true | some q => less q x) && RF may less (prevAt l (k + 1)) (l.drop (k + 1))) := by
  have hk := (List.getElem?_eq_some_iff.1 hx).1
  have h1 : l.drop k = x :: l.drop (k + 1) := by
    rw [List.drop_eq_getElem_cons hk]
    congr 1
    exact (List.getElem?_eq_some_iff.1 hx).2
  have h2 : prevAt l (k + 1) = some x := hx
  rw [h1, h2]
  cases prevAt l k <;> rfl
end
/-- A row. -/
structure Rw where
  tx : Int
  state : Int
  first : Int
  last : Int
  undo : Int
  coord : Int
  ms : List Int
  ls : List Lk
def rowV (r : Rw) (m k : Value) : Value := .agg #[.int .i64 r.tx, .int .i64 r.state, .int .i64 r.first, .int .i64 r.last, .int .i64 r.undo, .int .i64 r.coord, m, k]
def seqB (n least : Int) : Bool := decide (least ≤ n) && decide (n ≤ 1099511627776)
def nodeB (n : Int) : Bool := decide (0 ≤ n) && decide (n < 8)
def lowerB (a b : Int) : Bool := decide (a < b)
def keyB (s : ByteArray) : Bool := !(s.toList == []) && decide (s.size ≤ 16)
theorem seq_any (n least : Int) (w : World) : Calls Try.prog 58 #[.int .i64 n, .int .i64 least] w fun e w' => e = .returned (.bool (seqB n least)) ∧ w' = w := by
  unfold seqB
  go_enter Try.func58, Try.ntmps58
  go_wp2
  all_goals (go_ret; refine ⟨ret_b ?_, rfl⟩; first | rfl | (rw [Bool.eq_iff_iff]; simp; done) | (rw [Bool.eq_iff_iff]; simp; omega))
theorem node_any (n : Int) (w : World) : Calls Try.prog 59 #[.int .i64 n] w fun e w' => e = .returned (.bool (nodeB n)) ∧ w' = w := by
  unfold nodeB
  go_enter Try.func59, Try.ntmps59
  go_wp2
  all_goals (go_ret; refine ⟨ret_b ?_, rfl⟩; first | rfl | (rw [Bool.eq_iff_iff]; simp; done) | (rw [Bool.eq_iff_iff]; simp; omega))
theorem lower_any (a b : Int) (w : World) : Calls Try.prog 85 #[.int .i64 a, .int .i64 b] w fun e w' => e = .returned (.bool (lowerB a b)) ∧ w' = w := by
  unfold lowerB
  go_enter Try.func85, Try.ntmps85
  go_wp2
  all_goals (go_ret; refine ⟨ret_b ?_, rfl⟩; first | rfl | (rw [Bool.eq_iff_iff]; simp; done) | (rw [Bool.eq_iff_iff]; simp; omega))
theorem kind_any (n : Int) (w : World) (h1 : 1 ≤ n) (h2 : n ≤ 10) : Calls Try.prog 53 #[.int .i64 n] w fun e w' => e = .returned (.bool true) ∧ w' = w := by
  go_enter Try.func53, Try.ntmps53
  go_wp2
  all_goals (go_ret; refine ⟨ret_b ?_, rfl⟩; first | rfl | (rw [Bool.eq_iff_iff]; simp; done) | (rw [Bool.eq_iff_iff]; simp; omega))
theorem key_any (s : ByteArray) (w : World) : Calls Try.prog 56 #[.string s] w fun e w' => e = .returned (.bool (keyB s)) ∧ w' = w := by
  unfold keyB
  go_enter Try.func56, Try.ntmps56
  go_wp2
  all_goals (go_ret; refine ⟨ret_b ?_, rfl⟩; first | (simp_all; done) | (rw [Bool.eq_iff_iff]; simp_all; omega) | (rw [Bool.eq_iff_iff]; simp; done) | (rw [Bool.eq_iff_iff]; simp; omega))
def lkV (x : Lk) : Value := .agg #[.string x.1, .bool x.2]
def mayL (x : Lk) : Bool := keyB x.1
def lessL (x y : Lk) : Bool := Op.bytesLess x.1.toList y.1.toList
theorem locks1_any (x : Lk) (w : World) : Calls Try.prog 87 #[lkV x] w fun e w' => e = .returned (.bool (mayL x)) ∧ Chg NoB w w' := by
  obtain ⟨s, b⟩ := x
  unfold mayL lkV
  have hk := fun W => key_any s W
  generalize keyB s = r at hk ⊢
  go_enter Try.func87, Try.ntmps87
  go_wp2_with (go_at_call 56; refine (hk _).mono ?_; rintro e w2 ⟨rfl, rfl⟩)
  go_ret
  exact ⟨rfl, (Chg.refl _ w).alloc _⟩
theorem locks2_any (x y : Lk) (w : World) : Calls Try.prog 88 #[lkV x, lkV y] w fun e w' => e = .returned (.bool (lessL x y)) ∧ Chg NoB w w' := by
  obtain ⟨s, b⟩ := x
  obtain ⟨s2, b2⟩ := y
  unfold lessL lkV
  go_enter Try.func88, Try.ntmps88
  go_wp2
  go_ret
  exact ⟨rfl, ((Chg.refl _ w).alloc _).alloc _⟩
theorem len_bytes (s : ByteArray) : s.toList.length = s.size := by rw [ByteArray.toList_eq]; rfl
theorem keyB_iff (s : ByteArray) : keyB s = true ↔ 1 ≤ s.size ∧ s.size ≤ 16 := by
  have := len_bytes s
  unfold keyB
  cases h : s.toList with
  | nil => rw [h] at this; simp at this; simp; omega
  | cons a l => rw [h] at this; simp at this; simp; omega
end Go.Proofs.Ythpnhndligblaaa
