/- The law's 'awake' answers true. Conditions: none. -/
import Derived.Test.YtpjmamobiancdaaLs
import Derived.Test.YtpjmamobiancdaaTd
namespace Go.Proofs.Ytpjmamobiancdaa
open Go.RowKit Go.Maps Go.BigFrame
def aw1 : Rw := ⟨5, 1, 3, 0, 0, 0, [], []⟩
def aw2 : Rw := ⟨2, 1, 0, 0, 0, 0, [], []⟩
set_option maxHeartbeats 2000000 in
theorem awake_any (w : World) : Calls Try.prog 9 #[] w fun e w' => e = .returned (.bool true) ∧ Chg NoB w w' := by
  have hnew := new_any w
  have hT : ∀ j, j < w.heap.size → j = w.heap.size → NoB j := fun j h1 h2 => by omega
  have hadd1 := fun w1 (ht : TAt w1 (w.heap.size + 1) w.heap.size []) => add_ok _ _ [] aw1 (.slice none 0 0) (.slice none 0 0) w1 ht (Sees.nil _) (Sees.nil _) (by decide) (by simp [hasX, mget]) (by simp)
  have hadd2 := fun w1 m1 l1 (ht : TAt w1 (w.heap.size + 1) w.heap.size (mput [] aw1.tx (aw1, m1, l1))) => add_ok _ _ _ aw2 (.slice none 0 0) (.slice none 0 0) w1 ht (Sees.nil _) (Sees.nil _) (by decide) (by simp [hasX, mget, mput, aw1, aw2]) (by simp [mput])
  have hall := fun w1 m1 l1 m2 l2 (ht : TAt w1 (w.heap.size + 1) w.heap.size (mput (mput [] aw1.tx (aw1, m1, l1)) aw2.tx (aw2, m2, l2))) => all_any _ _ _ w1 ht (by simp [mput, aw1, aw2])
  have hleast := fun w1 m1 l1 m2 l2 (ht : TAt w1 (w.heap.size + 1) w.heap.size (mput (mput [] aw1.tx (aw1, m1, l1)) aw2.tx (aw2, m2, l2))) => least_any _ _ _ w1 ht
  have hmm : ∀ m1 l1 m2 l2, mput (mput ([] : List (Int × X)) aw1.tx (aw1, m1, l1)) aw2.tx (aw2, m2, l2) = [(5, (aw1, m1, l1)), (2, (aw2, m2, l2))] := by
    intro m1 l1 m2 l2
    simp [mput, aw1, aw2]
  have hso : sortI [5, 2] = [2, 5] := by simp [sortI, List.mergeSort, List.MergeSort.Internal.splitInTwo]
  have hls : lsOf [aw1, aw2] = 3 := by decide
  simp only [hmm, List.map_cons, List.map_nil, hso, hls] at hall hleast
  simp only [lookX, mget, List.lookup, aw1, aw2] at hall
  simp only [aw1, aw2, rowV] at hadd1 hadd2
  clear hmm hso hls
  go_enter Try.func9, Try.ntmps9
  go_wp2_with (first
    | (go_at_call 10; refine hnew.mono ?_; clear hnew; rintro e w1 ⟨rfl, ht1, hc1⟩; go_frame)
    | (go_at_call 11; refine (hadd1 _ ht1).mono ?_; clear hadd1; rintro e w2 ⟨rfl, m1, l1, ht2, hc2⟩; have hadd3 := hadd2 _ m1 l1 ht2; clear hadd2; go_frame)
    | (go_at_call 11; refine hadd3.mono ?_; clear hadd3; rintro e w3 ⟨rfl, m2, l2, ht3, hc3⟩; have hall' := hall _ m1 l1 m2 l2 ht3; clear hall; go_frame)
    | (go_at_call 13; refine hall'.mono ?_; clear hall'; rintro e w4 ⟨v, L, rfl, hrow, hxs, hL, hc4⟩; have hLl := congrArg List.length hL; rw [List.length_map] at hLl; simp only [List.length_cons, List.length_nil] at hLl; obtain ⟨x, hx0⟩ : ∃ x, L[0]? = some x := ⟨L[0]'(by omega), List.getElem?_eq_getElem _⟩; have hxt : x.1.tx = 2 := (by have := congrArg (fun m => m[0]?.map Rw.tx) hL; simpa [hx0] using this); obtain ⟨g, cap, rfl, _⟩ := xrow_some hrow (j := 0) (by omega); have q0 := (xrow_cells hrow hx0).1; rw [hxt, Nat.zero_mul] at q0; have hLi : (L.length : Int) = 2 := (by omega); clear hL hxs hLl hx0; have hls' := hleast _ m1 l1 m2 l2 (ht3.no hc4); clear hleast; go_frame)
    | (go_at_call 15; refine hls'.mono ?_; clear hls'; rintro e w5 ⟨rfl, hc5⟩; have q0' := hc5.cell q0 (by simp [NoB]); go_frame)
    | fail)
  go_ret
  exact ⟨rfl, (((hc1.trans hc2 hT).trans hc3 hT).trans hc4 (by simp [NoB])).trans hc5 (by simp [NoB])⟩
end Go.Proofs.Ytpjmamobiancdaa
