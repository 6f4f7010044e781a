/- The reference's test whether two rows are the same. Conditions: at most 2^40 members and locks. -/
import Derived.Test.YtpjmamobiancdaaSm
import Derived.Test.YtpjmamobiancdaaRb
namespace Go.Proofs.Ytpjmamobiancdaa
open Go.RowKit Go.Maps Go.BigFrame
def sameB (r s : Rw) : Bool := (r.tx == s.tx) && (r.state == s.state) && (r.first == s.first) && (r.last == s.last) && (r.undo == s.undo) && (r.coord == s.coord) && decide (r.ms = s.ms) && decide (r.ls = s.ls)
theorem sameB_iff (r s : Rw) : sameB r s = true ↔ r = s := by
  obtain ⟨a, b, c, d, e, f, g, h⟩ := r
  obtain ⟨a', b', c', d', e', f', g', h'⟩ := s
  simp [sameB, and_assoc]
set_option maxHeartbeats 4000000 in
theorem sameRow_any (r s : Rw) (mv lv mw lw : Value) (w : World) (hm0 : Sees w cellsI mv r.ms) (hl0 : Sees w cellsL lv r.ls) (hm1 : Sees w cellsI mw s.ms) (hl1 : Sees w cellsL lw s.ls)
    (hml : r.ms.length ≤ 1099511627776) (hll : r.ls.length ≤ 1099511627776) (hml1 : s.ms.length ≤ 1099511627776) (hll1 : s.ls.length ≤ 1099511627776) :
    Calls Try.prog 19 #[rowV r mv lv, rowV s mw lw] w fun e w' => e = .returned (.bool (sameB r s)) ∧ Chg NoB w w' := by
  unfold sameB rowV
  obtain ⟨am, cm, rfl⟩ := hm0.shape
  obtain ⟨al, cl, rfl⟩ := hl0.shape
  obtain ⟨an, cn, rfl⟩ := hm1.shape
  obtain ⟨ak, ck, rfl⟩ := hl1.shape
  obtain ⟨tx, state, first, last, undo, coord, ms, ls⟩ := r
  obtain ⟨tx', state', first', last', undo', coord', ms', ls'⟩ := s
  simp only at *
  have hbox := At.new w [.int .i64 tx, .int .i64 state, .int .i64 first, .int .i64 last, .int .i64 undo, .int .i64 coord, .slice am ms.length cm, .slice al ls.length cl] 32
  have hbox2 := At.new (w.alloc (.cells #[.int .i64 tx, .int .i64 state, .int .i64 first, .int .i64 last, .int .i64 undo, .int .i64 coord, .slice am ms.length cm, .slice al ls.length cl] 32)) [.int .i64 tx', .int .i64 state', .int .i64 first', .int .i64 last', .int .i64 undo', .int .i64 coord', .slice an ms'.length cn, .slice ak ls'.length ck] 32
  have x7 := (hbox.alloc (.cells #[.int .i64 tx', .int .i64 state', .int .i64 first', .int .i64 last', .int .i64 undo', .int .i64 coord', .slice an ms'.length cn, .slice ak ls'.length ck] 32)).cell 7 rfl
  have y7 := hbox2.cell 7 rfl
  rw [World.size_alloc] at y7
  have hcb := ((Chg.refl NoB w).alloc (.cells #[.int .i64 tx, .int .i64 state, .int .i64 first, .int .i64 last, .int .i64 undo, .int .i64 coord, .slice am ms.length cm, .slice al ls.length cl] 32)).alloc (.cells #[.int .i64 tx', .int .i64 state', .int .i64 first', .int .i64 last', .int .i64 undo', .int .i64 coord', .slice an ms'.length cn, .slice ak ls'.length ck] 32)
  have hm := sameInts_any _ _ ms ms' _ (hm0.no hcb) (hm1.no hcb) hml hml1
  have hlk := fun W hW => sameLocks_any _ _ ls ls' W ((hl0.no hcb).no hW) ((hl1.no hcb).no hW) hll hll1
  clear hbox hbox2 hm0 hl0 hm1 hl1 hml hll hml1 hll1
  generalize hb1 : (tx == tx') = b1
  generalize hb2 : (state == state') = b2
  generalize hb3 : (first == first') = b3
  generalize hb4 : (last == last') = b4
  generalize hb5 : (undo == undo') = b5
  generalize hb6 : (coord == coord') = b6
  generalize decide (ms = ms') = b7 at hm ⊢
  generalize decide (ls = ls') = b8 at hlk ⊢
  cases b1 with
  | false =>
    go_enter Try.func19, Try.ntmps19
    go_wp2_with (first | (go_at_call 25; refine hm.mono ?_; clear hm; rintro e w3 ⟨rfl, hc3⟩; have hx3 := hc3.cell x7 (by simp [NoB]); have hy3 := hc3.cell y7 (by simp [NoB]); have hl3 := hlk w3 hc3) | (go_at_call 34; refine hl3.mono ?_; rintro e w4 ⟨rfl, hc4⟩))
    go_ret
    first | exact ⟨rfl, hcb⟩ | exact ⟨rfl, hcb.trans hc3 (by simp [NoB])⟩ | exact ⟨rfl, (hcb.trans hc3 (by simp [NoB])).trans hc4 (by simp [NoB])⟩
  | true =>
    cases b2 with
    | false =>
      go_enter Try.func19, Try.ntmps19
      go_wp2_with (first | (go_at_call 25; refine hm.mono ?_; clear hm; rintro e w3 ⟨rfl, hc3⟩; have hx3 := hc3.cell x7 (by simp [NoB]); have hy3 := hc3.cell y7 (by simp [NoB]); have hl3 := hlk w3 hc3) | (go_at_call 34; refine hl3.mono ?_; rintro e w4 ⟨rfl, hc4⟩))
      go_ret
      first | exact ⟨rfl, hcb⟩ | exact ⟨rfl, hcb.trans hc3 (by simp [NoB])⟩ | exact ⟨rfl, (hcb.trans hc3 (by simp [NoB])).trans hc4 (by simp [NoB])⟩
    | true =>
      cases b3 with
      | false =>
        go_enter Try.func19, Try.ntmps19
        go_wp2_with (first | (go_at_call 25; refine hm.mono ?_; clear hm; rintro e w3 ⟨rfl, hc3⟩; have hx3 := hc3.cell x7 (by simp [NoB]); have hy3 := hc3.cell y7 (by simp [NoB]); have hl3 := hlk w3 hc3) | (go_at_call 34; refine hl3.mono ?_; rintro e w4 ⟨rfl, hc4⟩))
        go_ret
        first | exact ⟨rfl, hcb⟩ | exact ⟨rfl, hcb.trans hc3 (by simp [NoB])⟩ | exact ⟨rfl, (hcb.trans hc3 (by simp [NoB])).trans hc4 (by simp [NoB])⟩
      | true =>
        cases b4 with
        | false =>
          go_enter Try.func19, Try.ntmps19
          go_wp2_with (first | (go_at_call 25; refine hm.mono ?_; clear hm; rintro e w3 ⟨rfl, hc3⟩; have hx3 := hc3.cell x7 (by simp [NoB]); have hy3 := hc3.cell y7 (by simp [NoB]); have hl3 := hlk w3 hc3) | (go_at_call 34; refine hl3.mono ?_; rintro e w4 ⟨rfl, hc4⟩))
          go_ret
          first | exact ⟨rfl, hcb⟩ | exact ⟨rfl, hcb.trans hc3 (by simp [NoB])⟩ | exact ⟨rfl, (hcb.trans hc3 (by simp [NoB])).trans hc4 (by simp [NoB])⟩
        | true =>
          cases b5 with
          | false =>
            go_enter Try.func19, Try.ntmps19
            go_wp2_with (first | (go_at_call 25; refine hm.mono ?_; clear hm; rintro e w3 ⟨rfl, hc3⟩; have hx3 := hc3.cell x7 (by simp [NoB]); have hy3 := hc3.cell y7 (by simp [NoB]); have hl3 := hlk w3 hc3) | (go_at_call 34; refine hl3.mono ?_; rintro e w4 ⟨rfl, hc4⟩))
            go_ret
            first | exact ⟨rfl, hcb⟩ | exact ⟨rfl, hcb.trans hc3 (by simp [NoB])⟩ | exact ⟨rfl, (hcb.trans hc3 (by simp [NoB])).trans hc4 (by simp [NoB])⟩
          | true =>
            cases b6 with
            | false =>
              go_enter Try.func19, Try.ntmps19
              go_wp2_with (first | (go_at_call 25; refine hm.mono ?_; clear hm; rintro e w3 ⟨rfl, hc3⟩; have hx3 := hc3.cell x7 (by simp [NoB]); have hy3 := hc3.cell y7 (by simp [NoB]); have hl3 := hlk w3 hc3) | (go_at_call 34; refine hl3.mono ?_; rintro e w4 ⟨rfl, hc4⟩))
              go_ret
              first | exact ⟨rfl, hcb⟩ | exact ⟨rfl, hcb.trans hc3 (by simp [NoB])⟩ | exact ⟨rfl, (hcb.trans hc3 (by simp [NoB])).trans hc4 (by simp [NoB])⟩
            | true =>
              cases b7 with
              | false =>
                go_enter Try.func19, Try.ntmps19
                go_wp2_with (first | (go_at_call 25; refine hm.mono ?_; clear hm; rintro e w3 ⟨rfl, hc3⟩; have hx3 := hc3.cell x7 (by simp [NoB]); have hy3 := hc3.cell y7 (by simp [NoB]); have hl3 := hlk w3 hc3) | (go_at_call 34; refine hl3.mono ?_; rintro e w4 ⟨rfl, hc4⟩))
                go_ret
                first | exact ⟨rfl, hcb⟩ | exact ⟨rfl, hcb.trans hc3 (by simp [NoB])⟩ | exact ⟨rfl, (hcb.trans hc3 (by simp [NoB])).trans hc4 (by simp [NoB])⟩
              | true =>
                cases b8 with
                | false =>
                  go_enter Try.func19, Try.ntmps19
                  go_wp2_with (first | (go_at_call 25; refine hm.mono ?_; clear hm; rintro e w3 ⟨rfl, hc3⟩; have hx3 := hc3.cell x7 (by simp [NoB]); have hy3 := hc3.cell y7 (by simp [NoB]); have hl3 := hlk w3 hc3) | (go_at_call 34; refine hl3.mono ?_; rintro e w4 ⟨rfl, hc4⟩))
                  go_ret
                  first | exact ⟨rfl, hcb⟩ | exact ⟨rfl, hcb.trans hc3 (by simp [NoB])⟩ | exact ⟨rfl, (hcb.trans hc3 (by simp [NoB])).trans hc4 (by simp [NoB])⟩
                | true =>
                  go_enter Try.func19, Try.ntmps19
                  go_wp2_with (first | (go_at_call 25; refine hm.mono ?_; clear hm; rintro e w3 ⟨rfl, hc3⟩; have hx3 := hc3.cell x7 (by simp [NoB]); have hy3 := hc3.cell y7 (by simp [NoB]); have hl3 := hlk w3 hc3) | (go_at_call 34; refine hl3.mono ?_; rintro e w4 ⟨rfl, hc4⟩))
                  go_ret
                  first | exact ⟨rfl, hcb⟩ | exact ⟨rfl, hcb.trans hc3 (by simp [NoB])⟩ | exact ⟨rfl, (hcb.trans hc3 (by simp [NoB])).trans hc4 (by simp [NoB])⟩
end Go.Proofs.Ytpjmamobiancdaa
