/- A coordinator in memory: its map of entries, each entry of its own. Conditions: none. -/
import Derived.Test.YthpnhndligblaaaKs
import Derived.Test.YthpnhndligblaaaMg
namespace Go.Proofs.Ythpnhndligblaaa
open Go.RowKit Go.Maps Go.BigFrame
/-- An entry as data. -/
structure En where
  tx : Int
  phase : Int
  mem : List Int
  aw : List Int
  yes : List Int
  sure : Bool
/-- An entry as it lies in memory. -/
structure Ep where
  e : En
  b : Nat
  mv : Value
  ao : Option Nat
  yv : Value
def cellsE (p : Ep) : List Value := [.int .i64 p.e.tx, .int .i64 p.e.phase, p.mv, .map p.ao, p.yv, .bool p.e.sure]
def encP (b : Nat) : Value := .pointer (some ⟨b, 0, none⟩)
def encB (b : Bool) : Value := .bool b
abbrev SMap := MapIs Try.prog 3 encN encB
abbrev EMap := MapIs Try.prog 3 encN encP
/-- A set of nodes behind a map that may be nil. -/
def AwIs (w : World) (ao : Option Nat) (aw : List Int) : Prop := match ao with
  | none => aw = []
  | some ba => SMap w ba (aw.map (fun n => (n, true)))
structure EHas (w : World) (p : Ep) : Prop where
  hd : At w p.b (cellsE p) 61
  m : IRow w 0 p.mv p.e.mem
  y : IRow w 0 p.yv p.e.yes
  a : AwIs w p.ao p.e.aw
def ownL (v : Value) : List Nat := v.ownBlock.toList
def blocks (p : Ep) : List Nat := p.b :: (ownL p.mv ++ (ownL p.yv ++ p.ao.toList))
theorem mem_ownL {v : Value} {k : Nat} : k ∈ ownL v ↔ v.ownBlock = some k := by
  unfold ownL
  cases v.ownBlock <;> simp [eq_comm]
theorem mem_blocks {p : Ep} {k : Nat} : k ∈ blocks p ↔ k = p.b ∨ p.mv.ownBlock = some k ∨ p.yv.ownBlock = some k ∨ p.ao = some k := by
  unfold blocks
  simp only [List.mem_cons, List.mem_append, mem_ownL, Option.mem_toList]
theorem AwIs.chg {S : Nat → Prop} {w w' : World} {ao : Option Nat} {aw : List Int} (h : AwIs w ao aw) (c : Chg S w w') (hs : ∀ k, ao = some k → ¬ S k) : AwIs w' ao aw := by
  cases ao with
  | none => exact h
  | some k => exact MapIs.chg h c (hs k rfl)
theorem EHas.chg {S : Nat → Prop} {w w' : World} {p : Ep} (h : EHas w p) (c : Chg S w w') (hs : ∀ k ∈ blocks p, ¬ S k) : EHas w' p :=
  ⟨h.hd.chg c (hs _ (mem_blocks.2 (.inl rfl))), h.m.chg c (fun _ hg => hs _ (mem_blocks.2 (.inr (.inl hg)))), h.y.chg c (fun _ hg => hs _ (mem_blocks.2 (.inr (.inr (.inl hg))))), h.a.chg c (fun _ hg => hs _ (mem_blocks.2 (.inr (.inr (.inr hg)))))⟩
theorem EHas.lt {w : World} {p : Ep} (h : EHas w p) : ∀ k ∈ blocks p, k < w.heap.size := by
  intro k hk
  rcases mem_blocks.1 hk with rfl | hk | hk | hk
  · exact h.hd.lt
  · exact (h.m.ge k hk).2
  · exact (h.y.ge k hk).2
  · have := h.a
    rw [hk] at this
    exact MapIs.lt this
structure CAt (w : World) (bc bm : Nat) (me : Int) (l : List Ep) : Prop where
  hd : At w bc [.int .i64 me, .map (some bm)] 56
  mp : EMap w bm (l.map (fun p => (p.e.tx, p.b)))
  own : ∀ p ∈ l, EHas w p
  sep : (bm :: l.flatMap blocks).Nodup
theorem CAt.no {w w' : World} {bc bm : Nat} {me : Int} {l : List Ep} (h : CAt w bc bm me l) (c : Chg NoB w w') : CAt w' bc bm me l :=
  ⟨h.hd.chg c (by simp [NoB]), h.mp.chg c (by simp [NoB]), fun p hp => (h.own p hp).chg c (by simp [NoB]), h.sep⟩
theorem CAt.nodup {w : World} {bc bm : Nat} {me : Int} {l : List Ep} (h : CAt w bc bm me l) : (l.map (·.e.tx)).Nodup := by
  have := h.mp.nodup
  rwa [List.map_map] at this
/-- No block of an entry's is the map's. -/
theorem CAt.bm_not {w : World} {bc bm : Nat} {me : Int} {l : List Ep} (h : CAt w bc bm me l) {p : Ep} (hp : p ∈ l) : bm ∉ blocks p := fun hb =>
  (List.nodup_cons.1 h.sep).1 (List.mem_flatMap.2 ⟨p, hp, hb⟩)
/-- No block of an entry's is the coordinator's. -/
theorem EHas.ne_at {w : World} {p : Ep} (h : EHas w p) {b : Nat} {cs : List Value} {T : TypeId} (ha : At w b cs T) (h1 : (3 : TypeId) ≠ T) (h2 : (61 : TypeId) ≠ T) : b ∉ blocks p := by
  intro hb
  rcases mem_blocks.1 hb with rfl | hb | hb | hb
  · have h3 := h.hd
    unfold At at h3 ha
    rw [h3] at ha
    simp at ha
    exact h2 ha.2
  · exact h.m.apart_at ha h1 hb
  · exact h.y.apart_at ha h1 hb
  · have := h.a
    rw [hb] at this
    exact MapIs.ne_at this ha rfl
theorem CAt.bc_not {w : World} {bc bm : Nat} {me : Int} {l : List Ep} (h : CAt w bc bm me l) {p : Ep} (hp : p ∈ l) : bc ∉ blocks p := (h.own p hp).ne_at h.hd (by decide) (by decide)
theorem CAt.ne {w : World} {bc bm : Nat} {me : Int} {l : List Ep} (h : CAt w bc bm me l) : bm ≠ bc := h.mp.ne_at h.hd
/-- Two entries share no block. -/
theorem sep_other {bm : Nat} {l1 l2 : List Ep} {p q : Ep} (h : (bm :: (l1 ++ p :: l2).flatMap blocks).Nodup) (hq : q ∈ l1 ++ l2) : ∀ k ∈ blocks q, k ∉ blocks p := by
  intro k hk hkp
  have h1 := (List.nodup_cons.1 h).2
  rw [List.flatMap_append, List.flatMap_cons] at h1
  rw [List.nodup_append] at h1
  obtain ⟨_, h3, h4⟩ := h1
  rw [List.nodup_append] at h3
  rcases List.mem_append.1 hq with hq | hq
  · exact h4 k (List.mem_flatMap.2 ⟨q, hq, hk⟩) k (List.mem_append_left _ hkp) rfl
  · exact h3.2.2 k hkp k (List.mem_flatMap.2 ⟨q, hq, hk⟩) rfl
/-- One entry has become another one; its blocks are its own or new. -/
theorem CAt.step {w w' : World} {bc bm : Nat} {me : Int} {l1 l2 : List Ep} {p p' : Ep} (h : CAt w bc bm me (l1 ++ p :: l2)) (c : Chg (· ∈ blocks p) w w') (hE : EHas w' p') (hb : p'.b = p.b) (ht : p'.e.tx = p.e.tx)
    (hbl : ∀ k ∈ blocks p', k ∈ blocks p ∨ w.heap.size ≤ k) (hn : (blocks p').Nodup) : CAt w' bc bm me (l1 ++ p' :: l2) := by
  have hp : p ∈ l1 ++ p :: l2 := by simp
  have hm := h.mp
  refine ⟨h.hd.chg c (h.bc_not hp), ?_, fun q hq => ?_, ?_⟩
  · have := hm.chg c (h.bm_not hp)
    simpa [hb, ht] using this
  · rcases List.mem_append.1 hq with hq | hq
    · exact (h.own q (List.mem_append_left _ hq)).chg c (sep_other h.sep (List.mem_append_left _ hq))
    · rcases List.mem_cons.1 hq with rfl | hq
      · exact hE
      · exact (h.own q (by simp [hq])).chg c (sep_other h.sep (List.mem_append_right _ hq))
  · have hs := h.sep
    have hlt : ∀ k ∈ bm :: (l1 ++ p :: l2).flatMap blocks, k < w.heap.size := by
      intro k hk
      rcases List.mem_cons.1 hk with rfl | hk
      · exact hm.lt
      · obtain ⟨q, hq, hk⟩ := List.mem_flatMap.1 hk
        exact (h.own q hq).lt k hk
    rw [List.flatMap_append, List.flatMap_cons] at hs hlt ⊢
    rw [List.nodup_cons, List.nodup_append, List.nodup_append] at hs ⊢
    obtain ⟨h1, h2, ⟨h3, h4, h5⟩, h6⟩ := hs
    refine ⟨?_, h2, ⟨hn, h4, ?_⟩, ?_⟩
    · intro hk
      rcases List.mem_append.1 hk with hk | hk
      · exact h1 (List.mem_append_left _ hk)
      · rcases List.mem_append.1 hk with hk | hk
        · rcases hbl _ hk with hk | hk
          · exact h1 (by simp [hk])
          · have := hm.lt
            omega
        · exact h1 (by simp [hk])
    · intro k hk j hj e
      subst e
      rcases hbl _ hk with hk | hk
      · exact h5 k hk k hj rfl
      · have := hlt k (by simp [hj])
        omega
    · intro k hk j hj e
      subst e
      rcases List.mem_append.1 hj with hj | hj
      · rcases hbl _ hj with hj | hj
        · exact h6 k hk k (by simp [hj]) rfl
        · have := hlt k (by simp [hk])
          omega
      · exact h6 k hk k (by simp [hj]) rfl
end Go.Proofs.Ythpnhndligblaaa
