/- The law of the least snapshot, walked. Conditions stand in the statement. -/
import Derived.Test.YtbgdhahdihbpaaaOldMoreQ
import Derived.Test.YtbgdhahdihbpaaaPackC
import Derived.Test.YtbgdhahdihbpaaaAliveQ

namespace Go.Proofs.Ytbgdhahdihbpaaa.Pure
open Go.RowKit Go.IntWalk Go.Proofs.Ytbgdhahdihbpaaa.Own Go.Proofs.Ytbgdhahdihbpaaa.Model Go.Proofs.Ytbgdhahdihbpaaa.Store Go.Proofs.Ytbgdhahdihbpaaa.Status Go.Proofs.Ytbgdhahdihbpaaa.Age Go.Proofs.Ytbgdhahdihbpaaa.Open Go.Proofs.Ytbgdhahdihbpaaa.PAgeOldest
set_option linter.unusedSimpArgs false
set_option linter.unusedVariables false

theorem walkAgeOldest (W : World) (T S K G Q : Int) (wT : (Lit.int .i64 T).wf = true) (wS : (Lit.int .i64 S).wf = true) (wK : (Lit.int .i64 K).wf = true) (wG : (Lit.int .i64 G).wf = true) (wQ : (Lit.int .u64 Q).wf = true)
    (a : Option Addr) (n cap : Nat) (zs : List Int) (hz : IsRow .u64 W a n cap zs) :
    Calls Try.prog 4 #[.agg #[.int .i64 T, .int .i64 S, .int .i64 K, .int .i64 G, .int .u64 Q], .slice a n cap] W fun e W' => e = .returned (.bool true) ∧ Below W.heap.size W W' := by
  by_cases h : (Cfg.Rt ⟨T, S, K, G, Q⟩ ∧ (n : Int) = Cfg.len ⟨T, S, K, G, Q⟩)
  · obtain ⟨hr, hn⟩ := h
    obtain ⟨bb, off, ws, rfl, hs, hnn, hw, hc⟩ := hz.given hr hn
    have HB := Below.refl W.heap.size W
    have ok : (Mem.start ⟨T, S, K, G, Q⟩ ws).Ok := ⟨hr, by show (ws.length : Int) = _; rw [hnn]; exact hn, hw⟩
    have HA2 := Lib.hid hc
    have HA := Lib.hid (And.intro hr (And.intro hnn (And.intro hn (And.intro hs (And.intro hw ok)))))
    clear hr hn hw ok hs hnn hc
    go_enter Try.func4, Try.ntmps4
    go_wp2_with (first
      | (go_at_call 18; refine (oldest_c ⟨T, S, K, G, Q⟩ ws bb off n cap _ HA.out.1 HA.out.2.1 HA.out.2.2.1 (HA.out.2.2.2.1.later (HB.alloc (Nat.le_refl _) _)) HA.out.2.2.2.2.1).mono ?_; rintro e w1 ⟨rfl, hb1⟩; replace HB := below_step (HB.alloc (Nat.le_refl _) _) hb1; have BC := (Blk.new W 24 #[.int .i64 T, .int .i64 S, .int .i64 K, .int .i64 G, .int .u64 Q]).below hb1; have c_BC := BC.cell)
      | (go_at_call 19; refine (refoldest_n ⟨T, S, K, G, Q⟩ ws n ⟨bb, off, none⟩ cap _ HA.out.2.1 HA.out.2.2.2.2.2 (HA.out.2.2.2.1.later HB) HA2.out).mono ?_; rintro e w2 ⟨rfl, hb2⟩; replace HB := below_step HB hb2)
      | (go_at_call 11; refine (Ev.alive_calls _).mono ?_; rintro e w3 ⟨rfl, hb3⟩; replace HB := below_step HB hb3))
    go_ret
    exact ⟨by simp, HB⟩
  · have HB := Below.refl W.heap.size W
    have HA := Lib.hid h
    have HZ := Lib.hid hz
    clear h hz
    go_enter Try.func4, Try.ntmps4
    go_wp2_with (first
      | (go_at_call 18; refine (oldest_none ⟨T, S, K, G, Q⟩ n cap a _ HA.out).mono ?_; rintro e w1 ⟨rfl, hb1⟩; replace HB := below_step (HB.alloc (Nat.le_refl _) _) hb1; have BC := (Blk.new W 24 #[.int .i64 T, .int .i64 S, .int .i64 K, .int .i64 G, .int .u64 Q]).below hb1; have c_BC := BC.cell)
      | (go_at_call 19; refine (refoldest_none ⟨T, S, K, G, Q⟩ n cap a zs _ HA.out (HZ.out.later HB)).mono ?_; rintro e w2 ⟨rfl, hb2⟩; replace HB := below_step HB hb2)
      | (go_at_call 11; refine (Ev.alive_calls _).mono ?_; rintro e w3 ⟨rfl, hb3⟩; replace HB := below_step HB hb3))
    go_ret
    exact ⟨by simp, HB⟩
end Go.Proofs.Ytbgdhahdihbpaaa.Pure
