/- What a table keeps while other blocks are written. Conditions: none. -/
import Derived.Test.YtpjmamobiancdaaGr
import Derived.Test.YtpjmamobiancdaaTd
import Derived.Test.YtpjmamobiancdaaRow2
namespace Go.Proofs.Ytpjmamobiancdaa
open Go.RowKit Go.Maps Go.BigFrame
theorem TAt.apart {S : Nat → Prop} {w w' : World} {bt bm B : Nat} {l : List (Int × X)} (h : TAt w bt bm l) (c : Chg S w w') (h1 : ¬ S bt) (h2 : ¬ S bm) (hB : ∀ p ∈ l, RHas w B p.2) (hS : ∀ g, S g → g < B) : TAt w' bt bm l :=
  ⟨h.hd.chg c h1, h.mp.chg c h2, fun p hp => (h.own p hp).chg c (fun g hg hs => by have := ((hB p hp).1.ge g hg).1; have := hS g hs; omega) (fun g hg hs => by have := ((hB p hp).2.ge g hg).1; have := hS g hs; omega), h.may⟩
theorem Sees.of_at {w : World} {b : Nat} {x : X} (h : At w b (cellsR x) 32) : Sees w cellsR (.slice (some ⟨b, 0, none⟩) [x].length 1) [x] := by
  have hs := SrcOf.one (enc := cellsR) (a := x) h
  exact ⟨_, _, rfl, (fun h => by cases h), hs.cells⟩
theorem greatB_one (x : X) : greatB [x] = greatR x := by simp [greatB]
theorem greatR_no {x : X} (h : greatR x = false) : x.1.ms.length ≤ 20 ∧ x.1.ls.length ≤ 80 := by
  simp [greatR] at h
  omega
theorem get_own (bt bm : Nat) (r : Rw) (m1 v1 : Value) (w : World) (ht : TAt w bt bm (mput [] r.tx (r, m1, v1))) (hB : rowB r = true) :
    Calls Try.prog 18 #[.pointer (some ⟨bt, 0, none⟩), .int .i64 r.tx] w fun e w' => ∃ a k b k', e = .returned (.tuple #[rowV r (.slice a r.ms.length k) (.slice b r.ls.length k'), .int .i64 0]) ∧ RHas w' w.heap.size (r, .slice a r.ms.length k, .slice b r.ls.length k') ∧ Chg NoB w w' := by
  obtain ⟨_, _, h1, h2⟩ := rowB_len hB
  have hg := get_any bt bm _ r.tx w ht (by unfold I64; omega) (by simp [hasX, mget, mput])
  have hl : (lookX (mput [] r.tx (r, m1, v1)) r.tx).1 = r := by simp [lookX, mget, mput]
  rw [hl] at hg
  refine hg.mono ?_
  rintro e w' ⟨mv, lv, rfl, hR, hc⟩
  obtain ⟨a, k, b, k', e1, e2⟩ := hR.shapes
  simp only at e1 e2
  subst e1
  subst e2
  exact ⟨a, k, b, k', rfl, hR, hc⟩
theorem irow_at {w : World} {base n : Nat} {a : Option Addr} {c : Nat} {l : List Int} (h : IRow w base (.slice a n c) l) {k : Nat} (hk : k < n) : n = l.length ∧ ∃ g, a = some ⟨g, 0, none⟩ ∧ base ≤ g ∧ g < w.heap.size := by
  obtain ⟨ao, cap, hv, _, hn, hs⟩ := h.shape
  simp only [Value.slice.injEq] at hv
  obtain ⟨rfl, rfl, rfl⟩ := hv
  refine ⟨rfl, ?_⟩
  cases a with
  | none => rw [(hn rfl).1] at hk; simp at hk
  | some ad => obtain ⟨g, rfl, h1, h2⟩ := hs ad rfl; exact ⟨g, rfl, h1, h2⟩
theorem lrow_at {w : World} {base n : Nat} {a : Option Addr} {c : Nat} {l : List Lk} (h : LRow w base (.slice a n c) l) {k : Nat} (hk : k < n) : n = l.length ∧ ∃ g, a = some ⟨g, 0, none⟩ ∧ base ≤ g ∧ g < w.heap.size := by
  obtain ⟨ao, cap, hv, _, hn, hs⟩ := h.shape
  simp only [Value.slice.injEq] at hv
  obtain ⟨rfl, rfl, rfl⟩ := hv
  refine ⟨rfl, ?_⟩
  cases a with
  | none => rw [(hn rfl).1] at hk; simp at hk
  | some ad => obtain ⟨g, rfl, h1, h2⟩ := hs ad rfl; exact ⟨g, rfl, h1, h2⟩
end Go.Proofs.Ytpjmamobiancdaa
