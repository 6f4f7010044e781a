/- Structs of many cells, as blocks known whole: stores, loads, results. Conditions: none. -/
import Derived.Test.YthpnhndligblaaaCc
import Derived.Deep.MidRow
import Derived.Laws.ResultCell
namespace Go.Proofs.Ythpnhndligblaaa
open Go.RowKit Go.Maps Go.BigFrame
theorem At.range {w : World} {b : Nat} {cs : List Value} {T : TypeId} (h : At w b cs T) : w.rangeAt b 0 cs := fun j v hv => by rw [Nat.zero_add]; exact h.cell j hv
theorem At.there {w : World} {b : Nat} {cs : List Value} {T : TypeId} (h : At w b cs T) : w.there b 0 cs.length := fun j hj => by
  rw [Nat.zero_add, h.cell j (List.getElem?_eq_getElem hj)]
  exact ⟨rfl, h.frozen j⟩
theorem wl_all (vs l : List Value) (h : vs.length = l.length) : wl l 0 vs = vs := by
  rw [wl_eq vs l 0 (by omega), h]
  simp
/-- A whole struct stored. -/
theorem wpList_storeAt {P : Program} {ops : Array Oper} {rest : List Oper} {o : Oper} {a : Act} {w : World} {Q : Exit → Act → World → Prop} {b : Nat} {cs : List Value} {T : TypeId} (hat : At w b cs T) (hg : o.guard = none) (ty : TypeId) (x y : Operand) (ho : o.op = .store ty x y)
    (hx : a.eval x = .pointer (some ⟨b, 0, none⟩)) (cs' : List Value) (hy : a.eval y = .agg cs'.toArray) (hl : cs'.length = cs.length) (hi : (P.info? ty).map (·.size) = some cs'.length) (h1 : ∀ v ∈ cs', v.oneCell' = true)
    (h : ∀ w', At w' b cs' T → Chg (· = b) w w' → w'.heap.size = w.heap.size → wpList P ops Q rest (a.put o.dst undef) w') : wpList P ops Q (o :: rest) a w := by
  refine wpList_store_mid hg ty x y ho b 0 cs'.toArray hx hy (by have := hat.there; rw [← hl] at this; simpa using this) (by simpa using hi) (all_oneCell_toArray h1) (h _ ?_ ?_ ?_)
  · have := At.setCells cs' 0 w cs hat
    rw [wl_all _ _ hl] at this
    simpa using this
  · exact Chg.setCells (S := (· = b)) (fun _ => rfl) _ 0 w (Chg.refl (· = b) w)
  · have : ∀ (vs : List Value) (i : Nat) (W : World), (W.setCells b i vs).heap.size = W.heap.size := by
      intro vs
      induction vs with
      | nil => intro i W; rfl
      | cons v r ih => intro i W; rw [show W.setCells b i (v :: r) = (W.setCell ⟨b, i, none⟩ v).setCells b (i + 1) r from rfl, ih]; simp [World.setCell]
    exact this _ _ _
theorem wpList_loadAt {P : Program} {ops : Array Oper} {rest : List Oper} {o : Oper} {a : Act} {w : World} {Q : Exit → Act → World → Prop} {b : Nat} {cs : List Value} {T : TypeId} (hat : At w b cs T) (hg : o.guard = none) (ty : TypeId) (x : Operand) (ho : o.op = .load ty x)
    (hx : a.eval x = .pointer (some ⟨b, 0, none⟩)) {d : TypeDesc} (hu : P.underlying ty = some d) (hd : d.isRow = true) (hi : (P.info? ty).map (·.size) = some cs.length)
    (h : wpList P ops Q rest (a.put o.dst (.agg cs.toArray)) w) : wpList P ops Q (o :: rest) a w :=
  wpList_load_mid hg ty x ho b 0 hx cs d hat.range hu hd hi h
theorem results_cell1 {fn : Func} {t : Tmp} {ty : TypeId} (h : fn.results = #[.cell t ty]) (tmps : Array Value) {P : Program} {w : World} {b : Nat} {cs : List Value} {T : TypeId} {d : TypeDesc} (ht : tmps.getD t undef = .pointer (some ⟨b, 0, none⟩)) (hat : At w b cs T)
    (hu : P.underlying ty = some d) (hd : d.isRow = true) (hi : (P.info? ty).map (·.size) = some cs.length) : (results fn tmps).run P w = .ok (.agg cs.toArray) w := by
  have hl := run_loadVar_mid (P := P) w b 0 ty cs d hat.range hu hd hi
  rw [Array.getD_eq_getD_getElem?] at ht
  simp [results, h, ht, asAddr, hl, Sem.run_bind, Result.andThen]
theorem results_cell2 {fn : Func} {t u : Tmp} {ty : TypeId} (h : fn.results = #[.cell t ty, .tmp u]) (tmps : Array Value) {P : Program} {w : World} {b : Nat} {cs : List Value} {T : TypeId} {d : TypeDesc} (ht : tmps.getD t undef = .pointer (some ⟨b, 0, none⟩)) (hat : At w b cs T)
    (hu : P.underlying ty = some d) (hd : d.isRow = true) (hi : (P.info? ty).map (·.size) = some cs.length) : (results fn tmps).run P w = .ok (.tuple #[.agg cs.toArray, tmps.getD u undef]) w := by
  have hl := run_loadVar_mid (P := P) w b 0 ty cs d hat.range hu hd hi
  rw [Array.getD_eq_getD_getElem?] at ht
  simp [results, h, ht, asAddr, hl, Sem.run_bind, Result.andThen]
/-! ### deals -/
def dealC (sv : Value) (k tx : Int) (mv : Value) (r : Int) : List Value := [sv, .int .i64 k, .int .i64 tx, .int .i64 0, .int .i64 0, .string ⟨#[]⟩, .bool false, .string ⟨#[]⟩, .bool false, .string ⟨#[]⟩, .int .i64 0, mv, .slice none 0 0, .slice none 0 0, .slice none 0 0, .slice none 0 0, .slice none 0 0, .int .i64 r]
theorem infoD : (Try.prog.info? 41).map (·.size) = some 18 := by kernel_rfl
def IsSl (v : Value) : Prop := ∃ a n c, v = .slice a n c
theorem dealC_one {sv mv : Value} {k tx r : Int} (h1 : IsSl sv) (h2 : IsSl mv) : ∀ v ∈ dealC sv k tx mv r, v.oneCell' = true := by
  obtain ⟨_, _, _, rfl⟩ := h1
  obtain ⟨_, _, _, rfl⟩ := h2
  intro v hv
  simp only [dealC, List.mem_cons, List.not_mem_nil, or_false] at hv
  rcases hv with rfl | rfl | rfl | rfl | rfl | rfl | rfl | rfl | rfl | rfl | rfl | rfl | rfl | rfl | rfl | rfl | rfl | rfl <;> rfl
theorem IsSl.nil : IsSl (.slice none 0 0) := ⟨_, _, _, rfl⟩
/-- A deal stored into its block. -/
theorem wpList_deal {ops : Array Oper} {rest : List Oper} {o : Oper} {a : Act} {w : World} {Q : Exit → Act → World → Prop} {b : Nat} {sv0 : Value} {k0 tx0 : Int} {mv0 : Value} {r0 : Int} (hat : At w b (dealC sv0 k0 tx0 mv0 r0) 41) (hg : o.guard = none) (x y : Operand) (ho : o.op = .store 41 x y)
    (hx : a.eval x = .pointer (some ⟨b, 0, none⟩)) (sv : Value) (k tx : Int) (mv : Value) (r : Int) (hy : a.eval y = .agg (dealC sv k tx mv r).toArray) (h1 : IsSl sv) (h2 : IsSl mv)
    (h : ∀ w', At w' b (dealC sv k tx mv r) 41 → Chg (· = b) w w' → w'.heap.size = w.heap.size → wpList Try.prog ops Q rest (a.put o.dst undef) w') : wpList Try.prog ops Q (o :: rest) a w :=
  wpList_storeAt hat hg 41 x y ho hx _ hy rfl infoD (dealC_one h1 h2) h
theorem ret_deal {fn : Func} {t : Tmp} (h : fn.results = #[.cell t 41]) {tmps : Array Value} {w : World} {b : Nat} {sv : Value} {k tx : Int} {mv : Value} {r : Int} (ht : tmps.getD t undef = .pointer (some ⟨b, 0, none⟩)) (hat : At w b (dealC sv k tx mv r) 41) :
    (results fn tmps).run Try.prog w = .ok (.agg (dealC sv k tx mv r).toArray) w := results_cell1 h tmps ht hat Try.underlying41 rfl infoD
theorem ret_deal2 {fn : Func} {t u : Tmp} (h : fn.results = #[.cell t 41, .tmp u]) {tmps : Array Value} {w : World} {b : Nat} {sv : Value} {k tx : Int} {mv : Value} {r : Int} (ht : tmps.getD t undef = .pointer (some ⟨b, 0, none⟩)) (hat : At w b (dealC sv k tx mv r) 41) {z : Value} (hz : tmps.getD u undef = z) :
    (results fn tmps).run Try.prog w = .ok (.tuple #[.agg (dealC sv k tx mv r).toArray, z]) w := by
  subst hz
  exact results_cell2 h tmps ht hat Try.underlying41 rfl infoD
end Go.Proofs.Ythpnhndligblaaa
