/- What came in: a slice of structs of four ints; a slice of ints. Conditions: none. -/
import Derived.Test.YtgpholdeiahldaaBase
import Derived.Deep.Slices
import Derived.OpenShut
import Derived.ChangeSlices
namespace Go.Proofs.Ytgpholdeiahldaa
open Go.ChangeShapes Go.RowKit Go.Maps
theorem at_one {cs : List Value} {i n : Nat} {v : Value} (hn : n = 1) (h : (cs.drop i).take n = [v]) : cs[i]? = some v := by
  subst hn
  have : ((cs.drop i).take 1)[0]? = some v := by rw [h]; rfl
  simpa using this
theorem open_quads {H : Type} {enc : TypeId × Value → H} {P : Program} {w : World} {base : Nat} {spare : Nat → Bool} {held : Bool} {t e ti : TypeId} {f0 f1 f2 f3 : Field} {fuel : Nat} {cs : List Value} {x : DataW H × List MemPlace}
    (ht : P.underlying t = some (.slice e)) (he : P.underlying e = some (.struct #[f0, f1, f2, f3])) (hti : P.underlying ti = some (.int .i64)) (ce : P.cellsOf e = 4) (ci : P.cellsOf ti = 1)
    (t0 : f0.type = ti ∧ f0.offset = 0) (t1 : f1.type = ti ∧ f1.offset = 1) (t2 : f2.type = ti ∧ f2.offset = 2) (t3 : f3.type = ti ∧ f3.offset = 3) (h : DataW.trod enc P w base spare held fuel t cs = some x) :
    cs = [.slice none 0 0] ∨ ∃ (ad : Addr) (len cap : Nat), cs = [.slice (some ad) len cap] ∧ ∀ i, i < len → ∃ z0 z1 z2 z3 : Int, ((Lit.int .i64 z0).wf = true ∧ (Lit.int .i64 z1).wf = true ∧ (Lit.int .i64 z2).wf = true ∧ (Lit.int .i64 z3).wf = true) ∧
      w.cell? (ad.add (i * 4)) = some (.int .i64 z0) ∧ w.cell? ⟨(ad.add (i * 4)).block, (ad.add (i * 4)).off + 1, none⟩ = some (.int .i64 z1) ∧ w.cell? ⟨(ad.add (i * 4)).block, (ad.add (i * 4)).off + 2, none⟩ = some (.int .i64 z2) ∧ w.cell? ⟨(ad.add (i * 4)).block, (ad.add (i * 4)).off + 3, none⟩ = some (.int .i64 z3) := by
  rcases Deep.open_slice ht h with ⟨h0, _⟩ | ⟨a, len, cap, m, n, D, Pl, rfl, hb, hl, hm, hmm, rfl, hx⟩
  · exact .inl h0
  · refine .inr ⟨a, len, cap, rfl, fun i hi => ?_⟩
    have him : i < m := by
      rw [hmm]
      split <;> omega
    obtain ⟨cs', h1, h2⟩ := hx i him
    rw [ce] at h1
    obtain ⟨_, hlen, hcell⟩ := World.cells?_some h1
    obtain ⟨xs, k, hk, hxy, _, hxl, hf⟩ := DataW.trod_struct he h2
    have one : ∀ (j : Nat) (f : Field), #[f0, f1, f2, f3][j]? = some f → f.type = ti → ∃ z : Int, (Lit.int .i64 z).wf = true ∧ cs'[f.offset]? = some (.int .i64 z) := by
      intro j f hj hft
      have h3 := hf j f hj
      have hjl : j < xs.length := by rw [hxl]; exact (Array.getElem?_eq_some_iff.1 hj).1
      rw [List.getElem?_eq_getElem hjl, hft, ci] at h3
      obtain ⟨z, hz, _, hwf⟩ := DataW.trod_int hti h3
      exact ⟨z, hwf, at_one rfl hz⟩
    obtain ⟨z0, w0, e0⟩ := one 0 f0 rfl t0.1
    obtain ⟨z1, w1, e1⟩ := one 1 f1 rfl t1.1
    obtain ⟨z2, w2, e2⟩ := one 2 f2 rfl t2.1
    obtain ⟨z3, w3, e3⟩ := one 3 f3 rfl t3.1
    rw [t0.2] at e0
    rw [t1.2] at e1
    rw [t2.2] at e2
    rw [t3.2] at e3
    have c0 := hcell 0 (by omega)
    have c1 := hcell 1 (by omega)
    have c2 := hcell 2 (by omega)
    have c3 := hcell 3 (by omega)
    rw [e0] at c0
    rw [e1] at c1
    rw [e2] at c2
    rw [e3] at c3
    exact ⟨z0, z1, z2, z3, ⟨w0, w1, w2, w3⟩, by simpa [Addr.add] using c0, by simpa [Addr.add] using c1, by simpa [Addr.add] using c2, by simpa [Addr.add] using c3⟩
end Go.Proofs.Ytgpholdeiahldaa
