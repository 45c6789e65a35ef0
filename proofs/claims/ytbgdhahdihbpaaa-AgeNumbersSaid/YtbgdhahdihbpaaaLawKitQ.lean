/- What the laws ask of words. Conditions stand in the statements. -/
import Derived.Test.YtbgdhahdihbpaaaStateIsQ
import Derived.Test.YtbgdhahdihbpaaaPackF
import Derived.Test.YtbgdhahdihbpaaaGivenQ
namespace Go.Proofs.Ytbgdhahdihbpaaa.PAgeOldest
open Go.RowKit Go.IntWalk Go.Proofs.Ytbgdhahdihbpaaa.Own Go.Proofs.Ytbgdhahdihbpaaa.Model Go.Proofs.Ytbgdhahdihbpaaa.Store Go.Proofs.Ytbgdhahdihbpaaa.Status Go.Proofs.Ytbgdhahdihbpaaa.Age
open Go.Proofs.YtbgdhahdihbpaaaW.PrintLast
set_option linter.unusedSimpArgs false
set_option linter.unusedVariables false
theorem state_c (w : Int) (hw : Word w) (W : World) : Calls Try.prog 13 #[.int .u64 w] W fun e W' => e = .returned (.int .i64 (partI w 27 3)) ∧ Below W.heap.size W W' := by
  refine (umpireref01_State.calls 70 w _ W (state_is w hw 0)).mono ?_
  rintro e W' ⟨rfl, hd⟩
  exact ⟨rfl, hd.below⟩
theorem refcell_rtc (c : Cfg) (h : c.Rt) (kind of : Int) (W : World) : Calls Try.prog 38 #[.agg #[.int .i64 c.T, .int .i64 c.S, .int .i64 c.K, .int .i64 c.G, .int .u64 c.Q], .int .i64 kind, .int .i64 of] W fun e w' => e = .returned (.int .i64 (c.cell kind of)) ∧ Below W.heap.size W w' := by
  refine (PAgeOldest.refcell_calls c kind of W).mono ?_
  rintro e w' ⟨rfl, hb⟩
  refine ⟨?_, hb⟩
  unfold Cfg.cellAny; rw [if_pos h]
theorem at_c (c : Cfg) (ws : List Int) (bb off n cap : Nat) (kind of : Int) (W : World) (h : c.Rt) (hnn : ws.length = n) (hn : (n : Int) = c.len) (hs : Lies W ⟨bb, off, none⟩ ws) (hin : 0 ≤ c.cell kind of) :
    Calls Try.prog 14 #[.agg #[.int .i64 c.T, .int .i64 c.S, .int .i64 c.K, .int .i64 c.G, .int .u64 c.Q], .slice (some ⟨bb, off, none⟩) n cap, .int .i64 kind, .int .i64 of] W fun e W' => e = .returned (.int .u64 ((Mem.start c ws).at kind of)) ∧ Below W.heap.size W W' := by
  obtain ⟨k, hk⟩ := Int.eq_ofNat_of_zero_le hin
  obtain ⟨hl, hat⟩ := wat_in h (by rw [hnn]; exact hn) kind of k hk
  have HK := Lib.hid hk
  have HAT := Lib.hid hat
  have hn0 : (0 : Int) ≤ (k : Int) := by omega
  have hnl : (k : Int) < (n : Int) := by omega
  have HB := Below.refl W.heap.size W
  have HS := Lib.hid hs
  have HR := Lib.hid h
  clear hk hat hn hnn hs h hin
  go_enter Try.func14, Try.ntmps14
  go_wp2_with (go_at_call 38; refine (refcell_rtc c HR.out kind of _).mono ?_; rintro e w1 ⟨rfl, hb1⟩; rw [HK.out]; replace HB := below_step (HB.alloc (Nat.le_refl _) _) hb1; have cl := (HS.out.later HB).cells k hl; rw [addr_at _ rfl] at cl)
  go_ret
  exact ⟨by rw [HAT.out]; rfl, HB⟩
end Go.Proofs.Ytbgdhahdihbpaaa.PAgeOldest
