/- The coordinator's map: looked into, added to, dropped from; 'of', 'New', 'Phase'. Conditions: numbers within int. -/
import Derived.Test.YthpnhndligblaaaCo
namespace Go.Proofs.Ythpnhndligblaaa
open Go.RowKit Go.Maps Go.BigFrame
theorem zeroPE (w : World) : (zeroValue 58).run Try.prog w = .ok (.pointer none) w := by kernel_rfl
def ptr : Option Nat → Value
  | none => .pointer none
  | some b => encP b
/-- The pairs of the map. -/
abbrev prs (l : List Ep) : List (Int × Nat) := l.map (fun p => (p.e.tx, p.b))
theorem CAt.looked {w : World} {bc bm : Nat} {me : Int} {l : List Ep} (h : CAt w bc bm me l) {tx : Int} (ht : I64 tx) (W : World) (hW : W.heap[bm]? = w.heap[bm]?) :
    (Instr.lookup 54 (.map (some bm)) (.int .i64 tx) false).run Try.prog W = .ok (ptr (mget (prs l) tx)) W := by
  have := (h.mp.of_heap hW).look law3 encN_inj Try.underlying54 zeroPE (key_lit ht) false
  have he : found encP (.pointer none) false (mget (prs l) tx) = ptr (mget (prs l) tx) := by cases mget (prs l) tx <;> rfl
  rw [he] at this
  exact this
theorem prs_none {l : List Ep} {tx : Int} (h : tx ∉ l.map (·.e.tx)) : mget (prs l) tx = none := lookup_none (by rw [List.map_map]; exact h)
theorem CAt.prs_some {w : World} {bc bm : Nat} {me : Int} {l1 l2 : List Ep} {p : Ep} (h : CAt w bc bm me (l1 ++ p :: l2)) : mget (prs (l1 ++ p :: l2)) p.e.tx = some p.b := by
  refine lookup_of_getElem? (j := l1.length) (by rw [List.map_map]; exact h.nodup) ?_
  simp
theorem CAt.add {w w' : World} {bc bm : Nat} {me : Int} {l : List Ep} {p : Ep} (h : CAt w bc bm me l) (hE : EHas w p) (hno : p.e.tx ∉ l.map (·.e.tx)) (hn : (blocks p).Nodup) (hd : ∀ k ∈ blocks p, k ∉ bm :: l.flatMap blocks)
    (hm : EMap w' bm (mput (prs l) p.e.tx p.b)) (g : w.grownBy w' (some bm)) : CAt w' bc bm me (l ++ [p]) := by
  have hc : Chg (· = bm) w w' := (Chg.refl (· = bm) w).grown g (by simp)
  have hput : mput (prs l) p.e.tx p.b = prs (l ++ [p]) := by
    unfold mput
    rw [if_neg (by rw [List.map_map]; exact hno)]
    show _ = (l ++ [p]).map _
    rw [List.map_append]
    rfl
  rw [hput] at hm
  refine ⟨h.hd.chg hc (fun e => h.ne e.symm), hm, fun q hq => ?_, ?_⟩
  · rcases List.mem_append.1 hq with hq | hq
    · exact (h.own q hq).chg hc (fun k hk e => by subst e; exact h.bm_not hq hk)
    · rw [List.mem_singleton] at hq
      subst hq
      exact hE.chg hc (fun k hk e => by subst e; exact hd _ hk (List.mem_cons_self ..))
  · have hs := h.sep
    rw [List.flatMap_append]
    have : bm :: (l.flatMap blocks ++ [p].flatMap blocks) = (bm :: l.flatMap blocks) ++ blocks p := by simp
    rw [this, List.nodup_append]
    refine ⟨hs, hn, fun k hk j hj e => ?_⟩
    subst e
    exact hd _ hj hk
theorem mdel_mid {l1 l2 : List Ep} {p : Ep} (hn : ((l1 ++ p :: l2).map (·.e.tx)).Nodup) : mdel (prs (l1 ++ p :: l2)) p.e.tx = prs (l1 ++ l2) := by
  unfold mdel
  show List.filter _ ((l1 ++ p :: l2).map (fun p => (p.e.tx, p.b))) = (l1 ++ l2).map (fun p => (p.e.tx, p.b))
  rw [List.map_append, List.map_cons, List.filter_append, List.filter_cons_of_neg (by simp), List.map_append]
  rw [List.map_append, List.map_cons, List.nodup_append] at hn
  obtain ⟨_, h2, h3⟩ := hn
  have ha : ∀ q ∈ l1, q.e.tx ≠ p.e.tx := fun q hq => h3 _ (List.mem_map_of_mem hq) _ (List.mem_cons_self ..)
  have hb : ∀ q ∈ l2, q.e.tx ≠ p.e.tx := fun q hq e => (List.nodup_cons.1 h2).1 (by rw [← e]; exact List.mem_map_of_mem hq)
  congr 1
  · refine List.filter_eq_self.2 fun x hx => ?_
    obtain ⟨q, hq, rfl⟩ := List.mem_map.1 hx
    simpa using ha q hq
  · refine List.filter_eq_self.2 fun x hx => ?_
    obtain ⟨q, hq, rfl⟩ := List.mem_map.1 hx
    simpa using hb q hq
theorem CAt.del {w w' : World} {bc bm : Nat} {me : Int} {l1 l2 : List Ep} {p : Ep} (h : CAt w bc bm me (l1 ++ p :: l2)) (hm : EMap w' bm (mdel (prs (l1 ++ p :: l2)) p.e.tx)) (hc : Chg (· = bm) w w') : CAt w' bc bm me (l1 ++ l2) := by
  rw [mdel_mid h.nodup] at hm
  have hsub : (l1 ++ l2).Sublist (l1 ++ p :: l2) := List.Sublist.append (List.Sublist.refl _) (List.sublist_cons_self ..)
  refine ⟨h.hd.chg hc (fun e => h.ne e.symm), hm, fun q hq => ?_, ?_⟩
  · have hq' := hsub.subset hq
    exact (h.own q hq').chg hc (fun k hk e => by subst e; exact h.bm_not hq' hk)
  · refine h.sep.sublist ?_
    refine List.Sublist.cons_cons _ ?_
    rw [List.flatMap_append, List.flatMap_append, List.flatMap_cons]
    exact List.Sublist.append (List.Sublist.refl _) (List.sublist_append_right ..)
theorem of_none (bc bm : Nat) (me tx : Int) (l : List Ep) (w : World) (h : CAt w bc bm me l) (ht : I64 tx) (hno : tx ∉ l.map (·.e.tx)) :
    Calls Try.prog 20 #[.pointer (some ⟨bc, 0, none⟩), .int .i64 tx] w fun e w' => e = .returned (.tuple #[.pointer none, .int .i64 160]) ∧ w' = w := by
  have hL := h.looked ht w rfl
  rw [prs_none hno] at hL
  unfold ptr at hL
  have c1 := h.hd.cell 1 rfl
  have hlt := h.hd.lt
  go_enter Try.func20, Try.ntmps20
  go_wp2
  exact bodyPost_ret (v := .tuple #[.pointer none, .int .i64 160]) (by simp [results, Try.results20, go_sem]) rfl ⟨rfl, rfl⟩
theorem of_some (bc bm : Nat) (me : Int) (l1 l2 : List Ep) (p : Ep) (w : World) (h : CAt w bc bm me (l1 ++ p :: l2)) (ht : I64 p.e.tx) :
    Calls Try.prog 20 #[.pointer (some ⟨bc, 0, none⟩), .int .i64 p.e.tx] w fun e w' => e = .returned (.tuple #[.pointer (some ⟨p.b, 0, none⟩), .int .i64 0]) ∧ w' = w := by
  have hL := h.looked ht w rfl
  rw [h.prs_some] at hL
  unfold ptr encP at hL
  have c1 := h.hd.cell 1 rfl
  have hlt := h.hd.lt
  go_enter Try.func20, Try.ntmps20
  go_wp2
  exact bodyPost_ret (v := .tuple #[.pointer (some ⟨p.b, 0, none⟩), .int .i64 0]) (by simp [results, Try.results20, go_sem]) rfl ⟨rfl, rfl⟩
theorem of_nil (tx : Int) (w : World) :
    Calls Try.prog 20 #[.pointer none, .int .i64 tx] w fun e w' => e = .returned (.tuple #[.pointer none, .int .i64 2]) ∧ w' = w := by
  go_enter Try.func20, Try.ntmps20
  go_wp2
  exact bodyPost_ret (v := .tuple #[.pointer none, .int .i64 2]) (by simp [results, Try.results20, go_sem]) rfl ⟨rfl, rfl⟩
end Go.Proofs.Ythpnhndligblaaa
