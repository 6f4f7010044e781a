/- A row of one-cell elements, made full. Conditions: none. -/
import Derived.Test.YthpnhndligblaaaBase
import Derived.Laws.OwnMore
namespace Go.Proofs.Ythpnhndligblaaa
open Go.RowKit Go.Maps
theorem wpList_make1 {P : Program} {β : Type} {val : β → List Value} {w : World} {ops : Array Oper} {rest : List Oper} {o : Oper} {a : Act} {Q : Exit → Act → World → Prop}
    (hg : o.guard = none) (l c : Operand) (t : TypeId) (hop : o.op = Op.makeSlice t l c)
    (base : Nat) (e : TypeId) (i : TypeInfo) (z : Value) (z0 : β) (hz0 : val z0 = [z]) (hz1 : z.cells = #[z]) (h1 : P.underlying t = some (.slice e)) (h2 : P.info? e = some i) (h3 : i.zero = some z) (h4 : i.size = 1)
    (kl kc : IntKind) (L C : Int) (n : Nat) (hl : a.eval l = .int kl L) (hc : a.eval c = .int kc C) (hL : L = (n : Int)) (hC : C = (n : Int)) (b2 : i.bytes * n ≤ 281474976710656) (b3 : n ≤ maxLen) (b4 : base ≤ w.heap.size)
    (hK : ∀ w', RowOf w' base e 1 val (.slice (some ⟨w.heap.size, 0, none⟩) n n) (List.replicate n z0) → w.grownBy w' none → wpList P ops Q rest (a.put o.dst (.slice (some ⟨w.heap.size, 0, none⟩) n n)) w') :
    wpList P ops Q (o :: rest) a w := by
  refine wpList_make_full w hg l c t hop base e i z 1 h1 h2 h3 h4 kl kc L C n hl hc hL hC b2 b3 b4 fun w' hr hgr => hK w' ?_ hgr
  rw [hz1, toList_madeCells_one, Nat.mul_one] at hr
  unfold RowOf
  have : (List.replicate n z0).flatMap val = List.replicate n z := by
    clear hr hgr hK hL hC b2 b3
    induction n with
    | zero => rfl
    | succ n ih => rw [List.replicate_succ, List.flatMap_cons, ih, hz0, List.replicate_succ]; rfl
  rw [this, List.length_replicate]
  exact hr
/-- Two rows of two types lie apart. -/
theorem RowOf.apart {w : World} {base base' : Nat} {e e' : TypeId} {k k' : Nat} {α β : Type} {enc : α → List Value} {enc' : β → List Value} {v v' : Value} {l : List α} {l' : List β} (h : RowOf w base e k enc v l) (h' : RowOf w base' e' k' enc' v' l') (hne : e ≠ e') :
    ∀ g, v.ownBlock = some g → v'.ownBlock ≠ some g := by
  intro g hg hg'
  rcases h.2 with ⟨rfl, _⟩ | ⟨b, cap, cur, rfl, _, hb, _⟩
  · cases hg
  · rcases h'.2 with ⟨rfl, _⟩ | ⟨b', cap', cur', rfl, _, hb', _⟩
    · cases hg'
    · cases hg
      cases hg'
      rw [hb] at hb'
      simp only [Option.some.injEq, Obj.cells.injEq] at hb'
      exact hne hb'.2.1
/-- A row lies apart from a block known whole, of another type. -/
theorem RowOf.apart_at {w : World} {base : Nat} {e : TypeId} {k : Nat} {α : Type} {enc : α → List Value} {v : Value} {l : List α} {b : Nat} {cs : List Value} {T : TypeId} (h : RowOf w base e k enc v l) (h' : At w b cs T) (hne : e ≠ T) : v.ownBlock ≠ some b := by
  intro hg
  rcases h.2 with ⟨rfl, _⟩ | ⟨b0, cap, cur, rfl, _, hb, _⟩
  · cases hg
  · cases hg
    unfold At at h'
    rw [hb] at h'
    simp only [Option.some.injEq, Obj.cells.injEq] at h'
    exact hne h'.2.1
/-- A row lies apart from a map. -/
theorem RowOf.apart_map {P : Program} {κ ν : Type} {kt : TypeId} {enck : κ → Value} {val : ν → Value} {w : World} {base : Nat} {e : TypeId} {k : Nat} {α : Type} {enc : α → List Value} {v : Value} {l : List α} {b : Nat} {m : List (κ × ν)} (h : RowOf w base e k enc v l) (h' : MapIs P kt enck val w b m) : v.ownBlock ≠ some b := by
  intro hg
  obtain ⟨es, clock, hb', _⟩ := h'
  rcases h.2 with ⟨rfl, _⟩ | ⟨b0, cap, cur, rfl, _, hb, _⟩
  · cases hg
  · cases hg
    rw [hb] at hb'
    cases hb'
end Go.Proofs.Ythpnhndligblaaa
