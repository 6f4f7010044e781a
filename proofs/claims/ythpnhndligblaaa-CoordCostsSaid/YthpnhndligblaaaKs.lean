/- The keys of a map of the coordinator's, sorted: slices.Sorted(maps.Keys(m)). Conditions: at most 2^40 keys. -/
import Derived.Test.YthpnhndligblaaaCl
import Derived.Test.YthpnhndligblaaaRng
namespace Go.Proofs.Ythpnhndligblaaa
open Go.RowKit Go.Maps Go.BigFrame Go.Sort Go.WideElems
def encN (n : Int) : Value := .int .i64 n
theorem encN_inj (x y : Int) (h : encN x = encN y) : x = y := by simpa [encN] using h
theorem law3 : Keyed Try.prog 3 := int_keyed Try.underlying3
theorem key_lit {n : Int} (h : I64 n) : ∃ kl, keyOf Try.prog 3 (encN n) = some kl := ⟨_, keyOf_int_mk Try.underlying3 h.wf⟩
abbrev RU : Value → Option (DataW Unit × List MemPlace) := fun _ => some (.nil, [])
theorem owns_of_map {ν : Type} {val : ν → Value} {w : World} {b : Nat} {l : List (Int × ν)} (hm : MapIs Try.prog 3 encN val w b l) (hlen : l.length ≤ maxLen) :
    ∃ D0 : DataW Unit, w.ownsMap Try.prog 3 RU b l.length D0 ∧ (intKeys D0).Perm (l.map (·.1)) ∧ Maps.size D0 = l.length := by
  obtain ⟨es, clock, hb, hes, hn, hk, hst, hbn⟩ := hm
  have hsz : es.size = l.length := by
    have := congrArg List.length hes
    simpa using this
  have hkey : ∀ p ∈ l, keyOf Try.prog 3 (encN p.1) = some (.int .i64 p.1) := by
    intro p hp
    obtain ⟨kl, hkl⟩ := hk p hp
    obtain ⟨x, h1, h2, _⟩ := keyOf_i64 Try.underlying3 hkl
    have : p.1 = x := encZ_inj h1
    rw [hkl, h2, this]
  have hrg : es.toList.map (rg Try.prog 3 RU) = l.map (fun p => (Lit.int .i64 p.1, DataW.nil)) := by
    have h1 : es.toList.map (rg Try.prog 3 RU) = (es.toList.map (fun e => (e.key, e.val))).map (fun kv => rg Try.prog 3 RU ⟨kv.1, kv.2, 0⟩) := by
      rw [List.map_map]
      refine List.map_congr_left (fun e _ => ?_)
      simp only [rg, WideElems.rd, Function.comp]
    rw [h1, hes, List.map_map]
    refine List.map_congr_left (fun p hp => ?_)
    simp only [Function.comp]
    exact rg_of (rd_mk (yv := (DataW.nil, [])) (hkey p hp) rfl)
  have hkeys : (es.toList.map (·.key)).Nodup := by
    have h1 : es.toList.map (·.key) = (l.map (·.1)).map encN := by
      have := congrArg (List.map Prod.fst) hes
      rw [List.map_map, List.map_map] at this
      rw [List.map_map]
      exact this
    rw [h1]
    exact List.pairwise_map.2 (hn.imp (fun h e => h (encN_inj _ _ e)))
  refine ⟨_, ⟨es, clock, hb, ⟨by rw [hsz]; exact hlen, ⟨hst, hbn, hkeys⟩, fun x hx => ?_⟩, by omega, rfl⟩, ?_, ?_⟩
  · have hx' : (x.key, x.val) ∈ es.toList.map (fun e => (e.key, e.val)) := List.mem_map.2 ⟨x, hx, rfl⟩
    rw [hes] at hx'
    obtain ⟨p, hp, he⟩ := List.mem_map.1 hx'
    simp only [Prod.mk.injEq] at he
    obtain ⟨key, val, born⟩ := x
    simp only at he
    obtain ⟨rfl, rfl⟩ := he
    exact ⟨_, rd_mk (yv := (DataW.nil, [])) (hkey p hp) rfl⟩
  · rw [hrg]
    have h2 := (Go.WideShapes.sorted_perm (l.map (fun p => (Lit.int .i64 p.1, (DataW.nil : DataW Unit))))).map (fun p => Go.intOf p.1)
    rw [List.map_map] at h2
    exact h2
  · rw [hrg]
    have h2 := (Go.WideShapes.sorted_perm (l.map (fun p => (Lit.int .i64 p.1, (DataW.nil : DataW Unit))))).length_eq
    rw [List.length_map] at h2
    exact h2
/-- slices.Sort's two contracts at this dump, at the fence that asks nothing. -/
theorem sortsA (m : Nat) : AnyZI.SortsIn Try.prog Try.sortedA_ren Fence.wide m :=
  ⟨fun blk off cap ss W hH hblk hsz => callsIn_wide.2 (AnyM.slices_Sort_int Try.sortA blk off cap ss W hH hblk hsz),
   fun p cap W => callsIn_wide.2 (AnyM.slices_Sort_int_none Try.sortA p cap W)⟩
def sortI (l : List Int) : List Int := l.mergeSort (fun x y => decide (x ≤ y))
theorem keysE_any (b : Nat) (w : World) : Calls Try.prog 30 #[.map (some b)] w fun e w' => e = .returned (.func (.func 42) #[] #[.pointer (some ⟨w.heap.size, 0, none⟩)]) ∧ w' = w.alloc (.cells #[.map (some b)] 54) :=
  (callsIn_wide (n := 5)).1 (AnyZI.keys_in Try.keysE Fence.wide 5 trivial rfl (some b) w)
set_option maxHeartbeats 1000000 in
theorem sortedE_any (b : Nat) {ν : Type} {val : ν → Value} (l : List (Int × ν)) (w : World) (hm : MapIs Try.prog 3 encN val w b l) (hlen : l.length ≤ 1099511627776) :
    Calls Try.prog 29 #[.func (.func 42) #[] #[.pointer (some ⟨w.heap.size, 0, none⟩)]] (w.alloc (.cells #[.map (some b)] 54)) fun e w' =>
      ∃ v, e = .returned v ∧ RowOf w' w.heap.size 3 1 (fun z => [Value.int .i64 z]) v (sortI (l.map (·.1))) ∧ Chg NoB w w' := by
  obtain ⟨D0, hown, hperm, hsize⟩ := owns_of_map hm (by unfold maxLen; omega)
  have hbl := hown.lt
  have hseq : SeqGives Fence.wide 2 Try.prog 42 #[.pointer (some ⟨w.heap.size, 0, none⟩)] encZ (fun ss => ss.Perm (intKeys D0)) (Maps.size D0) (w.alloc (.cells #[.map (some b)] 54)) :=
    AnyZI.keys_gives (ρ := Try.keysE_ren) { Try.keysE with } Fence.wide _ trivial rfl (by omega) w.heap.size b l.length D0 _ (by simp) (by simp) (by
      obtain ⟨es, clock, hb, Ft, hs, hD⟩ := hown
      exact ⟨es, clock, (Below.heap_alloc _ _ b hbl).trans hb, Ft, hs, hD⟩)
  have cS := AnyZI.sorted_in Try.sortedA Fence.wide 5 trivial trivial trivial trivial rfl (by omega) (sortsA _) (enters_of Try.func39 (by kernel_rfl) rfl) 42 #[.pointer (some ⟨w.heap.size, 0, none⟩)] trivial (enters_of Try.func42 (by kernel_rfl) rfl) _ _ (by rw [hsize]; unfold maxLen; omega) (by rw [hsize]; omega) _ hseq
  change CallsIn _ _ Try.prog 29 _ _ _ at cS
  refine (callsIn_wide.1 cS).mono ?_
  rintro e w' ⟨v, ss, rfl, hS, hrow, hnil, hbel⟩
  refine ⟨v, rfl, ?_, ?_⟩
  · have hs : ss.mergeSort (fun x y => decide (x ≤ y)) = sortI (l.map (·.1)) := mergeSort_of_perm_i (hS.trans hperm)
    rw [hs] at hrow
    have hl : ss.length = (sortI (l.map (·.1))).length := by rw [← hs]; simp
    have hf : (sortI (l.map (·.1))).flatMap (fun z => [Value.int .i64 z]) = (sortI (l.map (·.1))).map encZ := by
      induction sortI (l.map (·.1)) with
      | nil => rfl
      | cons a t ih => rw [List.flatMap_cons, ih]; rfl
    have hR : RowOf w' (w.alloc (.cells #[.map (some b)] 54)).heap.size 3 1 (fun z => [Value.int .i64 z]) v (sortI (l.map (·.1))) := by
      unfold RowOf
      rw [hf, ← hl]
      exact hrow
    exact hR.mono (by simp)
  · exact ((Chg.refl NoB w).alloc (.cells #[.map (some b)] 54)).trans (Chg.of_below hbel) (by simp [NoB])
theorem keysB_any (b : Nat) (w : World) : Calls Try.prog 40 #[.map (some b)] w fun e w' => e = .returned (.func (.func 51) #[] #[.pointer (some ⟨w.heap.size, 0, none⟩)]) ∧ w' = w.alloc (.cells #[.map (some b)] 59) :=
  (callsIn_wide (n := 5)).1 (AnyZI.keys_in Try.keysB Fence.wide 5 trivial rfl (some b) w)
set_option maxHeartbeats 1000000 in
theorem sortedB_any (b : Nat) {ν : Type} {val : ν → Value} (l : List (Int × ν)) (w : World) (hm : MapIs Try.prog 3 encN val w b l) (hlen : l.length ≤ 1099511627776) :
    Calls Try.prog 29 #[.func (.func 51) #[] #[.pointer (some ⟨w.heap.size, 0, none⟩)]] (w.alloc (.cells #[.map (some b)] 59)) fun e w' =>
      ∃ v, e = .returned v ∧ RowOf w' w.heap.size 3 1 (fun z => [Value.int .i64 z]) v (sortI (l.map (·.1))) ∧ Chg NoB w w' := by
  obtain ⟨D0, hown, hperm, hsize⟩ := owns_of_map hm (by unfold maxLen; omega)
  have hbl := hown.lt
  have hseq : SeqGives Fence.wide 2 Try.prog 51 #[.pointer (some ⟨w.heap.size, 0, none⟩)] encZ (fun ss => ss.Perm (intKeys D0)) (Maps.size D0) (w.alloc (.cells #[.map (some b)] 59)) :=
    AnyZI.keys_gives (ρ := Try.keysB_ren) { Try.keysB with } Fence.wide _ trivial rfl (by omega) w.heap.size b l.length D0 _ (by simp) (by simp) (by
      obtain ⟨es, clock, hb, Ft, hs, hD⟩ := hown
      exact ⟨es, clock, (Below.heap_alloc _ _ b hbl).trans hb, Ft, hs, hD⟩)
  have cS := AnyZI.sorted_in Try.sortedA Fence.wide 5 trivial trivial trivial trivial rfl (by omega) (sortsA _) (enters_of Try.func39 (by kernel_rfl) rfl) 51 #[.pointer (some ⟨w.heap.size, 0, none⟩)] trivial (enters_of Try.func51 (by kernel_rfl) rfl) _ _ (by rw [hsize]; unfold maxLen; omega) (by rw [hsize]; omega) _ hseq
  change CallsIn _ _ Try.prog 29 _ _ _ at cS
  refine (callsIn_wide.1 cS).mono ?_
  rintro e w' ⟨v, ss, rfl, hS, hrow, hnil, hbel⟩
  refine ⟨v, rfl, ?_, ?_⟩
  · have hs : ss.mergeSort (fun x y => decide (x ≤ y)) = sortI (l.map (·.1)) := mergeSort_of_perm_i (hS.trans hperm)
    rw [hs] at hrow
    have hl : ss.length = (sortI (l.map (·.1))).length := by rw [← hs]; simp
    have hf : (sortI (l.map (·.1))).flatMap (fun z => [Value.int .i64 z]) = (sortI (l.map (·.1))).map encZ := by
      induction sortI (l.map (·.1)) with
      | nil => rfl
      | cons a t ih => rw [List.flatMap_cons, ih]; rfl
    have hR : RowOf w' (w.alloc (.cells #[.map (some b)] 59)).heap.size 3 1 (fun z => [Value.int .i64 z]) v (sortI (l.map (·.1))) := by
      unfold RowOf
      rw [hf, ← hl]
      exact hrow
    exact hR.mono (by simp)
  · exact ((Chg.refl NoB w).alloc (.cells #[.map (some b)] 59)).trans (Chg.of_below hbel) (by simp [NoB])
end Go.Proofs.Ythpnhndligblaaa
