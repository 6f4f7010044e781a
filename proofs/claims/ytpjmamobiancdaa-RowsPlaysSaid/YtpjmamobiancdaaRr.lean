/- Package rec's test of a row. Conditions: at most 2^40 members and locks. -/
import Derived.Test.YtpjmamobiancdaaRl
import Derived.Test.YtpjmamobiancdaaRi
namespace Go.Proofs.Ytpjmamobiancdaa
open Go.RowKit Go.Maps Go.BigFrame
theorem members_any (v : Value) (l : List Int) (w : World) (hv : Sees w cellsI v l) (hl : l.length ≤ 1099511627776) :
    Calls Try.prog 57 #[v] w fun e w' => e = .returned (.bool (membersB l)) ∧ Chg NoB w w' := by
  have h := rising_int v l w hv hl
  obtain ⟨ao, c, rfl⟩ := hv.shape
  generalize membersB l = b at h ⊢
  go_enter Try.func57, Try.ntmps57
  go_wp2_with (go_at_call 74; refine h.mono ?_; rintro e w2 ⟨rfl, hc⟩)
  go_ret
  exact ⟨rfl, hc⟩
theorem locks_any (v : Value) (l : List Lk) (w : World) (hv : Sees w cellsL v l) (hl : l.length ≤ 1099511627776) :
    Calls Try.prog 58 #[v] w fun e w' => e = .returned (.bool (locksB l)) ∧ Chg NoB w w' := by
  have h := rising_lock v l w hv hl
  obtain ⟨ao, c, rfl⟩ := hv.shape
  generalize locksB l = b at h ⊢
  go_enter Try.func58, Try.ntmps58
  go_wp2_with (go_at_call 77; refine h.mono ?_; rintro e w2 ⟨rfl, hc⟩)
  go_ret
  exact ⟨rfl, hc⟩
def rowB (r : Rw) : Bool := seqB r.tx 1 && decide (1 ≤ r.state) && decide (r.state ≤ 4) && seqB r.first 0 && seqB r.last 0 && seqB r.undo 0 && nodeB r.coord && membersB r.ms && locksB r.ls
set_option maxHeartbeats 4000000 in
theorem row_any (r : Rw) (mv lv : Value) (w : World) (hm0 : Sees w cellsI mv r.ms) (hl0 : Sees w cellsL lv r.ls) (hml : r.ms.length ≤ 1099511627776) (hll : r.ls.length ≤ 1099511627776) :
    Calls Try.prog 66 #[rowV r mv lv] w fun e w' => e = .returned (.bool (rowB r)) ∧ Chg NoB w w' := by
  unfold rowB rowV
  have hbox := At.new w [.int .i64 r.tx, .int .i64 r.state, .int .i64 r.first, .int .i64 r.last, .int .i64 r.undo, .int .i64 r.coord, mv, lv] 32
  have x7 := hbox.cell 7 rfl
  have hcb := (Chg.refl NoB w).alloc (.cells #[.int .i64 r.tx, .int .i64 r.state, .int .i64 r.first, .int .i64 r.last, .int .i64 r.undo, .int .i64 r.coord, mv, lv] 32)
  have hm := members_any mv r.ms _ (hm0.alloc (.cells #[.int .i64 r.tx, .int .i64 r.state, .int .i64 r.first, .int .i64 r.last, .int .i64 r.undo, .int .i64 r.coord, mv, lv] 32)) hml
  have hlk := fun W (hW : Chg NoB (w.alloc (.cells #[.int .i64 r.tx, .int .i64 r.state, .int .i64 r.first, .int .i64 r.last, .int .i64 r.undo, .int .i64 r.coord, mv, lv] 32)) W) => locks_any lv r.ls W ((hl0.no hcb).no hW) hll
  have hs1 := fun W => seq_any r.tx 1 W
  have hs4 := fun W => seq_any r.first 0 W
  have hs5 := fun W => seq_any r.last 0 W
  have hs6 := fun W => seq_any r.undo 0 W
  have hs7 := fun W => node_any r.coord W
  clear hbox hm0 hl0 hml hll
  obtain ⟨tx, state, first, last, undo, coord, ms, ls⟩ := r
  simp only at *
  generalize seqB tx 1 = b1 at hs1 ⊢
  generalize hb2 : decide (1 ≤ state) = b2
  generalize hb3 : decide (state ≤ 4) = b3
  generalize seqB first 0 = b4 at hs4 ⊢
  generalize seqB last 0 = b5 at hs5 ⊢
  generalize seqB undo 0 = b6 at hs6 ⊢
  generalize nodeB coord = b7 at hs7 ⊢
  generalize membersB ms = b8 at hm ⊢
  generalize locksB ls = b9 at hlk ⊢
  cases b1 with
  | false =>
    go_enter Try.func66, Try.ntmps66
    go_wp2_with (first | (go_at_call 55; with_reducible refine (hs1 _).mono ?_; rintro e w2 ⟨rfl, rfl⟩) | (go_at_call 55; with_reducible refine (hs4 _).mono ?_; rintro e w2 ⟨rfl, rfl⟩) | (go_at_call 55; with_reducible refine (hs5 _).mono ?_; rintro e w2 ⟨rfl, rfl⟩) | (go_at_call 55; with_reducible refine (hs6 _).mono ?_; rintro e w2 ⟨rfl, rfl⟩) | (go_at_call 56; refine (hs7 _).mono ?_; rintro e w2 ⟨rfl, rfl⟩) | (go_at_call 57; refine hm.mono ?_; rintro e w3 ⟨rfl, hc3⟩; have hx3 := hc3.cell x7 (by simp [NoB]); have hl3 := hlk w3 hc3) | (go_at_call 58; refine hl3.mono ?_; rintro e w4 ⟨rfl, hc4⟩))
    go_ret
    first | exact ⟨rfl, hcb⟩ | exact ⟨rfl, hcb.trans hc3 (by simp [NoB])⟩ | exact ⟨rfl, (hcb.trans hc3 (by simp [NoB])).trans hc4 (by simp [NoB])⟩
  | true =>
    cases b2 with
    | false =>
      go_enter Try.func66, Try.ntmps66
      go_wp2_with (first | (go_at_call 55; with_reducible refine (hs1 _).mono ?_; rintro e w2 ⟨rfl, rfl⟩) | (go_at_call 55; with_reducible refine (hs4 _).mono ?_; rintro e w2 ⟨rfl, rfl⟩) | (go_at_call 55; with_reducible refine (hs5 _).mono ?_; rintro e w2 ⟨rfl, rfl⟩) | (go_at_call 55; with_reducible refine (hs6 _).mono ?_; rintro e w2 ⟨rfl, rfl⟩) | (go_at_call 56; refine (hs7 _).mono ?_; rintro e w2 ⟨rfl, rfl⟩) | (go_at_call 57; refine hm.mono ?_; rintro e w3 ⟨rfl, hc3⟩; have hx3 := hc3.cell x7 (by simp [NoB]); have hl3 := hlk w3 hc3) | (go_at_call 58; refine hl3.mono ?_; rintro e w4 ⟨rfl, hc4⟩))
      go_ret
      first | exact ⟨rfl, hcb⟩ | exact ⟨rfl, hcb.trans hc3 (by simp [NoB])⟩ | exact ⟨rfl, (hcb.trans hc3 (by simp [NoB])).trans hc4 (by simp [NoB])⟩
    | true =>
      cases b3 with
      | false =>
        go_enter Try.func66, Try.ntmps66
        go_wp2_with (first | (go_at_call 55; with_reducible refine (hs1 _).mono ?_; rintro e w2 ⟨rfl, rfl⟩) | (go_at_call 55; with_reducible refine (hs4 _).mono ?_; rintro e w2 ⟨rfl, rfl⟩) | (go_at_call 55; with_reducible refine (hs5 _).mono ?_; rintro e w2 ⟨rfl, rfl⟩) | (go_at_call 55; with_reducible refine (hs6 _).mono ?_; rintro e w2 ⟨rfl, rfl⟩) | (go_at_call 56; refine (hs7 _).mono ?_; rintro e w2 ⟨rfl, rfl⟩) | (go_at_call 57; refine hm.mono ?_; rintro e w3 ⟨rfl, hc3⟩; have hx3 := hc3.cell x7 (by simp [NoB]); have hl3 := hlk w3 hc3) | (go_at_call 58; refine hl3.mono ?_; rintro e w4 ⟨rfl, hc4⟩))
        go_ret
        first | exact ⟨rfl, hcb⟩ | exact ⟨rfl, hcb.trans hc3 (by simp [NoB])⟩ | exact ⟨rfl, (hcb.trans hc3 (by simp [NoB])).trans hc4 (by simp [NoB])⟩
      | true =>
        cases b4 with
        | false =>
          go_enter Try.func66, Try.ntmps66
          go_wp2_with (first | (go_at_call 55; with_reducible refine (hs1 _).mono ?_; rintro e w2 ⟨rfl, rfl⟩) | (go_at_call 55; with_reducible refine (hs4 _).mono ?_; rintro e w2 ⟨rfl, rfl⟩) | (go_at_call 55; with_reducible refine (hs5 _).mono ?_; rintro e w2 ⟨rfl, rfl⟩) | (go_at_call 55; with_reducible refine (hs6 _).mono ?_; rintro e w2 ⟨rfl, rfl⟩) | (go_at_call 56; refine (hs7 _).mono ?_; rintro e w2 ⟨rfl, rfl⟩) | (go_at_call 57; refine hm.mono ?_; rintro e w3 ⟨rfl, hc3⟩; have hx3 := hc3.cell x7 (by simp [NoB]); have hl3 := hlk w3 hc3) | (go_at_call 58; refine hl3.mono ?_; rintro e w4 ⟨rfl, hc4⟩))
          go_ret
          first | exact ⟨rfl, hcb⟩ | exact ⟨rfl, hcb.trans hc3 (by simp [NoB])⟩ | exact ⟨rfl, (hcb.trans hc3 (by simp [NoB])).trans hc4 (by simp [NoB])⟩
        | true =>
          cases b5 with
          | false =>
            go_enter Try.func66, Try.ntmps66
            go_wp2_with (first | (go_at_call 55; with_reducible refine (hs1 _).mono ?_; rintro e w2 ⟨rfl, rfl⟩) | (go_at_call 55; with_reducible refine (hs4 _).mono ?_; rintro e w2 ⟨rfl, rfl⟩) | (go_at_call 55; with_reducible refine (hs5 _).mono ?_; rintro e w2 ⟨rfl, rfl⟩) | (go_at_call 55; with_reducible refine (hs6 _).mono ?_; rintro e w2 ⟨rfl, rfl⟩) | (go_at_call 56; refine (hs7 _).mono ?_; rintro e w2 ⟨rfl, rfl⟩) | (go_at_call 57; refine hm.mono ?_; rintro e w3 ⟨rfl, hc3⟩; have hx3 := hc3.cell x7 (by simp [NoB]); have hl3 := hlk w3 hc3) | (go_at_call 58; refine hl3.mono ?_; rintro e w4 ⟨rfl, hc4⟩))
            go_ret
            first | exact ⟨rfl, hcb⟩ | exact ⟨rfl, hcb.trans hc3 (by simp [NoB])⟩ | exact ⟨rfl, (hcb.trans hc3 (by simp [NoB])).trans hc4 (by simp [NoB])⟩
          | true =>
            cases b6 with
            | false =>
              go_enter Try.func66, Try.ntmps66
              go_wp2_with (first | (go_at_call 55; with_reducible refine (hs1 _).mono ?_; rintro e w2 ⟨rfl, rfl⟩) | (go_at_call 55; with_reducible refine (hs4 _).mono ?_; rintro e w2 ⟨rfl, rfl⟩) | (go_at_call 55; with_reducible refine (hs5 _).mono ?_; rintro e w2 ⟨rfl, rfl⟩) | (go_at_call 55; with_reducible refine (hs6 _).mono ?_; rintro e w2 ⟨rfl, rfl⟩) | (go_at_call 56; refine (hs7 _).mono ?_; rintro e w2 ⟨rfl, rfl⟩) | (go_at_call 57; refine hm.mono ?_; rintro e w3 ⟨rfl, hc3⟩; have hx3 := hc3.cell x7 (by simp [NoB]); have hl3 := hlk w3 hc3) | (go_at_call 58; refine hl3.mono ?_; rintro e w4 ⟨rfl, hc4⟩))
              go_ret
              first | exact ⟨rfl, hcb⟩ | exact ⟨rfl, hcb.trans hc3 (by simp [NoB])⟩ | exact ⟨rfl, (hcb.trans hc3 (by simp [NoB])).trans hc4 (by simp [NoB])⟩
            | true =>
              cases b7 with
              | false =>
                go_enter Try.func66, Try.ntmps66
                go_wp2_with (first | (go_at_call 55; with_reducible refine (hs1 _).mono ?_; rintro e w2 ⟨rfl, rfl⟩) | (go_at_call 55; with_reducible refine (hs4 _).mono ?_; rintro e w2 ⟨rfl, rfl⟩) | (go_at_call 55; with_reducible refine (hs5 _).mono ?_; rintro e w2 ⟨rfl, rfl⟩) | (go_at_call 55; with_reducible refine (hs6 _).mono ?_; rintro e w2 ⟨rfl, rfl⟩) | (go_at_call 56; refine (hs7 _).mono ?_; rintro e w2 ⟨rfl, rfl⟩) | (go_at_call 57; refine hm.mono ?_; rintro e w3 ⟨rfl, hc3⟩; have hx3 := hc3.cell x7 (by simp [NoB]); have hl3 := hlk w3 hc3) | (go_at_call 58; refine hl3.mono ?_; rintro e w4 ⟨rfl, hc4⟩))
                go_ret
                first | exact ⟨rfl, hcb⟩ | exact ⟨rfl, hcb.trans hc3 (by simp [NoB])⟩ | exact ⟨rfl, (hcb.trans hc3 (by simp [NoB])).trans hc4 (by simp [NoB])⟩
              | true =>
                cases b8 with
                | false =>
                  go_enter Try.func66, Try.ntmps66
                  go_wp2_with (first | (go_at_call 55; with_reducible refine (hs1 _).mono ?_; rintro e w2 ⟨rfl, rfl⟩) | (go_at_call 55; with_reducible refine (hs4 _).mono ?_; rintro e w2 ⟨rfl, rfl⟩) | (go_at_call 55; with_reducible refine (hs5 _).mono ?_; rintro e w2 ⟨rfl, rfl⟩) | (go_at_call 55; with_reducible refine (hs6 _).mono ?_; rintro e w2 ⟨rfl, rfl⟩) | (go_at_call 56; refine (hs7 _).mono ?_; rintro e w2 ⟨rfl, rfl⟩) | (go_at_call 57; refine hm.mono ?_; rintro e w3 ⟨rfl, hc3⟩; have hx3 := hc3.cell x7 (by simp [NoB]); have hl3 := hlk w3 hc3) | (go_at_call 58; refine hl3.mono ?_; rintro e w4 ⟨rfl, hc4⟩))
                  go_ret
                  first | exact ⟨rfl, hcb⟩ | exact ⟨rfl, hcb.trans hc3 (by simp [NoB])⟩ | exact ⟨rfl, (hcb.trans hc3 (by simp [NoB])).trans hc4 (by simp [NoB])⟩
                | true =>
                  cases b9 with
                  | false =>
                    go_enter Try.func66, Try.ntmps66
                    go_wp2_with (first | (go_at_call 55; with_reducible refine (hs1 _).mono ?_; rintro e w2 ⟨rfl, rfl⟩) | (go_at_call 55; with_reducible refine (hs4 _).mono ?_; rintro e w2 ⟨rfl, rfl⟩) | (go_at_call 55; with_reducible refine (hs5 _).mono ?_; rintro e w2 ⟨rfl, rfl⟩) | (go_at_call 55; with_reducible refine (hs6 _).mono ?_; rintro e w2 ⟨rfl, rfl⟩) | (go_at_call 56; refine (hs7 _).mono ?_; rintro e w2 ⟨rfl, rfl⟩) | (go_at_call 57; refine hm.mono ?_; rintro e w3 ⟨rfl, hc3⟩; have hx3 := hc3.cell x7 (by simp [NoB]); have hl3 := hlk w3 hc3) | (go_at_call 58; refine hl3.mono ?_; rintro e w4 ⟨rfl, hc4⟩))
                    go_ret
                    first | exact ⟨rfl, hcb⟩ | exact ⟨rfl, hcb.trans hc3 (by simp [NoB])⟩ | exact ⟨rfl, (hcb.trans hc3 (by simp [NoB])).trans hc4 (by simp [NoB])⟩
                  | true =>
                    go_enter Try.func66, Try.ntmps66
                    go_wp2_with (first | (go_at_call 55; with_reducible refine (hs1 _).mono ?_; rintro e w2 ⟨rfl, rfl⟩) | (go_at_call 55; with_reducible refine (hs4 _).mono ?_; rintro e w2 ⟨rfl, rfl⟩) | (go_at_call 55; with_reducible refine (hs5 _).mono ?_; rintro e w2 ⟨rfl, rfl⟩) | (go_at_call 55; with_reducible refine (hs6 _).mono ?_; rintro e w2 ⟨rfl, rfl⟩) | (go_at_call 56; refine (hs7 _).mono ?_; rintro e w2 ⟨rfl, rfl⟩) | (go_at_call 57; refine hm.mono ?_; rintro e w3 ⟨rfl, hc3⟩; have hx3 := hc3.cell x7 (by simp [NoB]); have hl3 := hlk w3 hc3) | (go_at_call 58; refine hl3.mono ?_; rintro e w4 ⟨rfl, hc4⟩))
                    go_ret
                    first | exact ⟨rfl, hcb⟩ | exact ⟨rfl, hcb.trans hc3 (by simp [NoB])⟩ | exact ⟨rfl, (hcb.trans hc3 (by simp [NoB])).trans hc4 (by simp [NoB])⟩
end Go.Proofs.Ytpjmamobiancdaa
