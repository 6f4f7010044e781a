/- The timer's 'sorted': a row becomes a sorted permutation of itself. Conditions: fewer than 2^40 alarms. -/
import Derived.Test.YtgpholdeiahldaaSrt
import Derived.Test.YtgpholdeiahldaaSrtB
namespace Go.Proofs.Ytgpholdeiahldaa
open Go.RowKit Go.Maps Go.Sort
instance : Inhabited Alarm := ⟨⟨0, 0, 0, 0⟩⟩
/-- x comes ahead of y. -/
def lt3 (x y : T3) : Bool := decide (x.a < y.a) || (decide (x.a = y.a) && (decide (x.b < y.b) || (decide (x.b = y.b) && decide (x.c < y.c))))
theorem cmp3_lt (x y : T3) : decide (cmp3 x y < 0) = lt3 x y := by
  unfold cmp3 lt3
  rw [Bool.eq_iff_iff]
  simp only [decide_eq_true_eq, Bool.or_eq_true, Bool.and_eq_true]
  repeat' split
  all_goals omega
theorem swo3 (ord : Alarm → T3) : SWO (ltOf fun x y => cmp3 (ord x) (ord y)) where
  irrefl x := by unfold ltOf; rw [cmp3_lt]; unfold lt3; simp
  trans x y z h1 h2 := by
    unfold ltOf at *
    rw [cmp3_lt] at *
    unfold lt3 at *
    simp only [decide_eq_true_eq, Bool.or_eq_true, Bool.and_eq_true] at *
    omega
  ntrans x y z h1 h2 := by
    unfold ltOf at *
    rw [cmp3_lt] at *
    unfold lt3 at *
    rw [← Bool.not_eq_true] at *
    simp only [decide_eq_true_eq, Bool.or_eq_true, Bool.and_eq_true] at *
    omega
/-- The comparison of two alarms by ord, the order's function being g. -/
def CmpIs (g : Nat) (ord : Alarm → T3) : Prop := ∀ (x y : Alarm) (bo : Nat) (W : World), At W bo [.func (.func g) #[] #[]] 57 →
  Calls Try.prog 31 #[encA x, encA y, .pointer (some ⟨bo, 0, none⟩)] W fun e w' => e = .returned (.int .i64 (cmp3 (ord x) (ord y))) ∧ New W w'
theorem perm_of_permIn {d d' : Array Alarm} (h : PermIn 0 d.size d d') : d'.toList.Perm d.toList := by
  obtain ⟨h1, _, h3⟩ := h
  have e1 : d.extract 0 d.size = d := by simp
  have e2 : d'.extract 0 d.size = d' := by rw [← h1]; simp
  rwa [e1, e2] at h3
theorem sorted_of_sortedIn {lt : Alarm → Alarm → Bool} {d : Array Alarm} {n : Nat} (hn : n = d.size) (h : SortedIn lt 0 n d) : d.toList.Pairwise (fun x y => lt y x = false) := by
  rw [List.pairwise_iff_getElem]
  intro i j hi hj hij
  have hi' : i < d.size := by simpa using hi
  have hj' : j < d.size := by simpa using hj
  have := h i j (Nat.zero_le _) hij (by omega)
  rw [getElem!_pos d i hi', getElem!_pos d j hj'] at this
  simpa using this
set_option maxHeartbeats 1000000 in
theorem sorted_any (g : Nat) (ord : Alarm → T3) (hC : CmpIs g ord) (base : Nat) (v : Value) (l : List Alarm) (w : World) (hr : Row w base v l) (hl : l.length ≤ 1099511627776) :
    Calls Try.prog 22 #[v, .func (.func g) #[] #[]] w fun e w' => e = .returned v ∧ ∃ l' : List Alarm, l'.Perm l ∧ l'.Pairwise (fun x y => lt3 (ord y) (ord x) = false) ∧ Row w' base v l' ∧ Chg (fun b => v.ownBlock = some b) w w' := by
  have eg : ∀ args w, (callFunc 31 args).run Try.prog w = .ok (.enter 31 args) w := enters_of Try.func31 (by kernel_rfl) rfl
  obtain ⟨ao, cap, rfl, hcap, hn, hs⟩ := hr.shape
  cases hll : l.length with
  | zero =>
    have hl0 : l = [] := List.eq_nil_of_length_eq_zero hll
    have hnone := fun fv W => AnyF.slices_SortFunc_none { Try.sortA with } ao cap fv W
    change ∀ fv W, Calls Try.prog 30 _ _ _ at hnone
    go_enter Try.func22, Try.ntmps22
    go_wp2_with (go_at_call 30; refine (hnone _ _).mono ?_; rintro e w' ⟨rfl, rfl⟩)
    go_ret
    refine ⟨rfl, l, List.Perm.refl _, ?_, by rw [hll] at hr; exact hr.alloc _, (Chg.refl _ w).alloc _⟩
    rw [hl0]; exact List.Pairwise.nil
  | succ n =>
    obtain ⟨blk, rfl, hb1, hb2⟩ : ∃ blk, ao = some ⟨blk, 0, none⟩ ∧ base ≤ blk ∧ blk < w.heap.size := by
      cases ao with
      | none => rw [(hn rfl).1] at hll; simp at hll
      | some ad => obtain ⟨b, rfl, h1, h2⟩ := hs ad rfl; exact ⟨b, rfl, h1, h2⟩
    rw [← hll]
    have hH := hr.holdsK cellsA_len
    have hcmp : CmpLays Try.prog 31 #[.pointer (some ⟨w.heap.size, 0, none⟩)] cellsA 4 (fun x y => cmp3 (ord x) (ord y)) blk 0 l.toArray.size (w.alloc (.cells #[.func (.func g) #[] #[]] 57)) := by
      intro m os dk hdk x y
      have hat : At (sortWorldK cellsA 4 (w.alloc (.cells #[.func (.func g) #[] #[]] 57)) blk 0 m dk os) w.heap.size [.func (.func g) #[] #[]] 57 :=
        (At.new w [_] 57).chg sortWorldK_chg (by omega)
      exact (hC x y w.heap.size _ hat).mono fun e w' ⟨he, hn⟩ => ⟨he, hn.grow⟩
    have hcon := AnyQ.slices_SortFunc Try.sortA 4 Try.isAgg34 Try.sizeOf34 cellsA cellsA_len cellsA_one (fun x y => cmp3 (ord x) (ord y)) (swo3 ord) 31 #[.pointer (some ⟨w.heap.size, 0, none⟩)] blk 0 cap l.toArray
      (w.alloc (.cells #[.func (.func g) #[] #[]] 57)) eg hcmp ((hr.alloc _).holdsK cellsA_len) (by simp; omega) (by simp; omega)
    change Calls Try.prog 30 _ _ _ at hcon
    rw [show l.toArray.size = l.length from by simp] at hcon
    clear hcmp hH eg hll
    go_enter Try.func22, Try.ntmps22
    go_wp2_with (go_at_call 30; refine hcon.mono ?_; rintro e w' ⟨rfl, d', n', os, hp, hso, rfl⟩)
    go_ret
    have hps : d'.size = l.length := by simpa using hp.1
    refine ⟨rfl, d'.toList, ?_, ?_, (hr.alloc _).sorted cellsA_len hps, ?_⟩
    · have := perm_of_permIn (d := l.toArray) (d' := d') (by simpa using hp)
      simpa using this
    · have := sorted_of_sortedIn hps.symm hso
      refine this.imp ?_
      intro x y h
      unfold ltOf at h
      rwa [cmp3_lt] at h
    · refine ((Chg.refl _ w).alloc _).trans (sortWorldK_chg) ?_
      rintro b _ rfl
      rfl
end Go.Proofs.Ytgpholdeiahldaa
