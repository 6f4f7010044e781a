/- The two tables side by side: what holds of both between two calls. Conditions: at most 64 rows. -/
import Derived.Test.YtpjmamobiancdaaPr
import Derived.Test.YtpjmamobiancdaaSr
namespace Go.Proofs.Ytpjmamobiancdaa
open Go.RowKit Go.Maps Go.BigFrame
structure Both (w0 W : World) (bm bR : Nat) (l : List (Int × X)) (v : Value) (L : List X) : Prop where
  t : TAt W (bm + 1) bm l
  r : RAt W bR bR v L
  rel : Rel l (L.map (·.1))
  len : L.length ≤ 64
  chg : Chg NoB w0 W
  b1 : w0.heap.size ≤ bm
  b2 : w0.heap.size ≤ bR
variable {w0 W W' w3 w4 : World} {bm bR : Nat} {l l' : List (Int × X)} {v v' : Value} {L L' : List X}
theorem Both.no (h : Both w0 W bm bR l v L) (c : Chg NoB W W') : Both w0 W' bm bR l v L := ⟨h.t.no c, h.r.no c, h.rel, h.len, h.chg.trans c (by simp [NoB]), h.b1, h.b2⟩
theorem Both.mid (h : Both w0 W bm bR l v L) (c : Chg (· = bm) W w3) : RAt w3 bR bR v L := h.r.map h.t.mp c
theorem Both.chg3 (h : Both w0 W bm bR l v L) (c : Chg (· = bm) W w3) : Chg NoB w0 w3 := h.chg.trans c (fun j h1 h2 => by have := h.b1; omega)
theorem Both.two (h : Both w0 W bm bR l v L) (ht3 : TAt w3 (bm + 1) bm l') (hc3 : Chg (· = bm) W w3) (hr4 : RAt w4 bR bR v' L') (hc4 : Chg (RS bR v) w3 w4) (hrel : Rel l' (L'.map (·.1))) (hlen : L'.length ≤ 64) : Both w0 w4 bm bR l' v' L' :=
  ⟨ht3.ref (h.mid hc3) hc4, hr4, hrel, hlen, (h.chg3 hc3).trans hc4 (fun j h1 h2 => by
    have h5 := h.b2
    rcases h2 with e | e
    · omega
    · have := (h.r.row.ge j e).1
      omega), h.b1, h.b2⟩
theorem Both.box (h : Both w0 W bm bR l v L) {b : Nat} {cs : List Value} (hb : At W b cs 49) : ¬ b = bm ∧ ¬ RS bR v b := by
  refine ⟨fun e => h.t.mp.ne_at hb e.symm, ?_⟩
  rintro (e | e)
  · subst e
    have := At.type hb h.r.hd
    simp at this
  · exact h.r.row.apart_at hb (by decide) e
theorem Both.low (h : Both w0 W bm bR l v L) : bR ≤ W.heap.size ∧ L.length ≤ 4294967296 := ⟨Nat.le_of_lt h.r.hd.lt, by have := h.len; omega⟩
theorem At.eight {b : Nat} {c0 c1 c2 c3 c4 c5 c6 c7 c8 c9 : Value} (h : At W b [c0, c1, c2, c3, c4, c5, c6, c7, c8, c9] 49) :
    W.cell? ⟨b, 2, none⟩ = some c2 ∧ W.cell? ⟨b, 3, none⟩ = some c3 ∧ W.cell? ⟨b, 4, none⟩ = some c4 ∧ W.cell? ⟨b, 5, none⟩ = some c5 ∧ W.cell? ⟨b, 6, none⟩ = some c6 ∧ W.cell? ⟨b, 7, none⟩ = some c7 ∧ W.cell? ⟨b, 8, none⟩ = some c8 ∧ W.cell? ⟨b, 9, none⟩ = some c9 :=
  ⟨h.cell 2 rfl, h.cell 3 rfl, h.cell 4 rfl, h.cell 5 rfl, h.cell 6 rfl, h.cell 7 rfl, h.cell 8 rfl, h.cell 9 rfl⟩
theorem ref_lens (h : Both w0 W bm bR l v L) : ∀ x ∈ L, x.1.ms.length ≤ 1099511627776 ∧ x.1.ls.length ≤ 1099511627776 := fun x hx => by
  have h1 := h.rel.perm.mem_iff.1 (List.mem_map_of_mem hx)
  obtain ⟨p, hp, he⟩ := List.mem_map.1 h1
  have := rowB_len (h.t.may p hp).1
  rw [he] at this
  omega
/-- What the two answer when both are asked for all, and for the least. -/
theorem Both.all (h : Both w0 W bm bR l v L) : (sortI (l.map (·.1))).map (fun k => (lookX l k).1) = L.map (·.1) := h.rel.all
theorem Both.least (h : Both w0 W bm bR l v L) : lsOf (l.map (fun p => p.2.1)) = lsOf (L.map (·.1)) := h.rel.least
theorem get_sl (h : Both w0 W bm bR l v L) {n : Int} {r : Rw} (hn : I64 n) (ht : thereB (L.map (·.1)) n = true) (hr : (L.map (·.1))[findI (L.map (·.1)) n]? = some r) :
    Calls Try.prog 18 #[.pointer (some ⟨bm + 1, 0, none⟩), .int .i64 n] W fun e w' => ∃ a k b k', e = .returned (.tuple #[rowV r (.slice a r.ms.length k) (.slice b r.ls.length k'), .int .i64 0]) ∧ RHas w' 0 (r, .slice a r.ms.length k, .slice b r.ls.length k') ∧ Chg NoB W w' := by
  have h1 := h.rel.look_there ht
  rw [hr] at h1
  cases h1
  refine (get_any (bm + 1) bm l n W h.t hn (by rw [h.rel.has]; exact ht)).mono fun e w' ⟨mv, lv, he, hR, hc⟩ => ?_
  obtain ⟨a, k, b, k', e1, e2⟩ := hR.shapes
  simp only at e1 e2
  subst e1
  subst e2
  exact ⟨a, k, b, k', he, hR.mono (Nat.zero_le _), hc⟩
theorem rget_sl (h : RAt W bR bR v L) (hl : L.length ≤ 4294967296) {n : Int} {r : Rw} (ht : thereB (L.map (·.1)) n = true) (hr : (L.map (·.1))[findI (L.map (·.1)) n]? = some r) :
    Calls Try.prog 22 #[.pointer (some ⟨bR, 0, none⟩), .int .i64 n] W fun e w' => ∃ a k b k', e = .returned (.tuple #[rowV r (.slice a r.ms.length k) (.slice b r.ls.length k'), .int .i64 0]) ∧ RHas w' 0 (r, .slice a r.ms.length k, .slice b r.ls.length k') ∧ Chg NoB W w' := by
  refine (rget_any bR bR v L n W h hl ht).mono fun e w' ⟨x, a, k, b, k', hx, h1, e1, e2, he, hc⟩ => ?_
  rw [hr] at h1
  have h1 := Option.some.inj h1
  subst h1
  refine ⟨a, k, b, k', he, ?_, hc⟩
  have := (h.own x hx).no hc
  rw [← e1, ← e2]
  exact this
theorem same_yes (h : Both w0 W bm bR l v L) {b : Nat} {va : Value} {A : List X} (hc : Chg NoB W w3) (ha : XRow w3 b va A) (oa : ∀ x ∈ A, RHas w3 0 x) (he : A.map (·.1) = L.map (·.1)) :
    Calls Try.prog 14 #[va, v] w3 fun e w' => e = .returned (.bool true) ∧ Chg NoB w3 w' := by
  have hr := h.r.no hc
  have hl := ref_lens h
  have hn := congrArg List.length he
  rw [List.length_map, List.length_map] at hn
  have hlen := h.len
  have := rsame_any b bR va v A L w3 ha hr.row oa hr.own (fun x hx => by
    have h1 : x.1 ∈ L.map (·.1) := by rw [← he]; exact List.mem_map_of_mem hx
    obtain ⟨y, hy, hyx⟩ := List.mem_map.1 h1
    rw [← hyx]
    exact hl y hy) hl (by omega)
  rw [decide_eq_true he] at this
  exact this
theorem sameRow_yes (r : Rw) (mv lv mw lw : Value) (hm0 : Sees W cellsI mv r.ms) (hl0 : Sees W cellsL lv r.ls) (hm1 : Sees W cellsI mw r.ms) (hl1 : Sees W cellsL lw r.ls) (hml : r.ms.length ≤ 1099511627776) (hll : r.ls.length ≤ 1099511627776) :
    Calls Try.prog 19 #[rowV r mv lv, rowV r mw lw] W fun e w' => e = .returned (.bool true) ∧ Chg NoB W w' := by
  have := sameRow_any r r mv lv mw lw W hm0 hl0 hm1 hl1 hml hll hml hll
  rw [(sameB_iff r r).2 rfl] at this
  exact this
end Go.Proofs.Ytpjmamobiancdaa
