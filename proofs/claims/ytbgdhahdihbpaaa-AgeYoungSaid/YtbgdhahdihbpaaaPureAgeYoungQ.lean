/- The law of the young, walked. Conditions stand in the statement. -/
import Derived.Test.YtbgdhahdihbpaaaPackD
import Derived.Test.YtbgdhahdihbpaaaLawKitQ
import Derived.Test.YtbgdhahdihbpaaaAliveQ
namespace Go.Proofs.Ytbgdhahdihbpaaa.Pure
open Go.RowKit Go.IntWalk Go.Proofs.Ytbgdhahdihbpaaa.Own Go.Proofs.Ytbgdhahdihbpaaa.Model Go.Proofs.Ytbgdhahdihbpaaa.Store Go.Proofs.Ytbgdhahdihbpaaa.Status Go.Proofs.Ytbgdhahdihbpaaa.Age Go.Proofs.Ytbgdhahdihbpaaa.Open Go.Proofs.Ytbgdhahdihbpaaa.PAgeOldest
set_option linter.unusedSimpArgs false
set_option linter.unusedVariables false

theorem young_none (W : World) (T S K G Q : Int) (a : Option Addr) (n cap : Nat) (slot : Int) (h : ¬ (Cfg.Rt ⟨T, S, K, G, Q⟩ ∧ (n : Int) = Cfg.len ⟨T, S, K, G, Q⟩)) :
    Calls Try.prog 6 #[.agg #[.int .i64 T, .int .i64 S, .int .i64 K, .int .i64 G, .int .u64 Q], .slice a n cap, .int .i64 slot] W fun e W' => e = .returned (.bool true) ∧ Below W.heap.size W W' := by
  have HA := Lib.hid h
  have HB := Below.refl W.heap.size W
  clear h
  go_enter Try.func6, Try.ntmps6
  go_wp2_with (first
    | (go_at_call 9; refine (lawof_none ⟨T, S, K, G, Q⟩ n a cap _ HA.out).mono ?_; rintro e w1 ⟨rfl, hb1⟩; have N_BC : Blk w1 (W.heap.size) (24) #[.int .i64 T, .int .i64 S, .int .i64 K, .int .i64 G, .int .u64 Q] := Blk.later hb1 (by exact got); have N_HB : Below W.heap.size W w1 := below_step (by exact gotB) hb1; (try clear c_BC f_BC); (try clear BC HB); have BC := N_BC; have HB := N_HB; clear N_BC N_HB; have c_BC := BC.cell; have f_BC := BC.free; have hz1 := HB.size; unfold refZero; have c_R := (Blk.new w1 35 #[.int .i64 0, .int .i64 0, .int .i64 0, .int .i64 0, .int .u64 0, .slice none 0 0, .int .i64 0, .int .i64 0, .int .i64 0, .int .i64 0, .int .u64 0, .int .u64 0, .bool false]).cell; have f_R := (Blk.new w1 35 #[.int .i64 0, .int .i64 0, .int .i64 0, .int .i64 0, .int .u64 0, .slice none 0 0, .int .i64 0, .int .i64 0, .int .i64 0, .int .i64 0, .int .u64 0, .int .u64 0, .bool false]).free)
    | (go_at_call 11; refine (Ev.alive_calls _).mono ?_; rintro e w3 ⟨rfl, hb3⟩; have N_BC : Blk w3 (W.heap.size) (24) #[.int .i64 T, .int .i64 S, .int .i64 K, .int .i64 G, .int .u64 Q] := Blk.later hb3 (by exact got); have N_HB : Below W.heap.size W w3 := below_step (by exact gotB) hb3; (try clear c_BC f_BC); (try clear BC HB); have BC := N_BC; have HB := N_HB; clear N_BC N_HB))
  go_ret
  exact ⟨rfl, HB⟩

set_option maxHeartbeats 1000000 in
theorem young_some (W : World) (T S K G Q : Int) (bb off n cap : Nat) (ws : List Int) (slot : Int) (hr : Cfg.Rt ⟨T, S, K, G, Q⟩) (hnn : ws.length = n) (hn : (n : Int) = Cfg.len ⟨T, S, K, G, Q⟩) (hs : Lies W ⟨bb, off, none⟩ ws) (hw : ∀ x ∈ ws, 0 ≤ x ∧ x < 18446744073709551616) :
    Calls Try.prog 6 #[.agg #[.int .i64 T, .int .i64 S, .int .i64 K, .int .i64 G, .int .u64 Q], .slice (some ⟨bb, off, none⟩) n cap, .int .i64 slot] W fun e W' => e = .returned (.bool true) ∧ Below W.heap.size W W' := by
  have ok0 : (Mem.start ⟨T, S, K, G, Q⟩ ws).Ok := ⟨hr, by show (ws.length : Int) = _; rw [hnn]; exact hn, hw⟩
  have ok := ok0
  have hS : 1 ≤ S ∧ S ≤ 12 := ⟨hr.2.2.1, hr.2.2.2.1⟩
  have HB := Below.refl W.heap.size W
  go_enter Try.func6, Try.ntmps6
  go_wp2_with (first
    | (go_at_call 9; refine (lawof_c ⟨T, S, K, G, Q⟩ ws n ⟨bb, off, none⟩ cap _ hr hnn hn (hs.later (by exact gotB)) hw).mono ?_; rintro e w1 ⟨m, g, cap', rfl, wb, cur, hMm, hR, hb1, gm, gwb, gg, _⟩; simp at gm gwb; have N_BC : Blk w1 (W.heap.size) (24) #[.int .i64 T, .int .i64 S, .int .i64 K, .int .i64 G, .int .u64 Q] := Blk.later hb1 (by exact got); have N_HB : Below W.heap.size W w1 := below_step (by exact gotB) hb1; (try clear c_BC f_BC); (try clear BC HB); have BC := N_BC; have HB := N_HB; clear N_BC N_HB; have c_BC := BC.cell; have f_BC := BC.free; have hz1 := HB.size; have Bm := hMm.obj; have Bw := hMm.words; have lm := Bm.lt; have lw := Bw.lt; have lC := BC.lt; rw [show refCells g cap' (Mem.start ⟨T, S, K, G, Q⟩ ws) = #[.int .i64 T, .int .i64 S, .int .i64 K, .int .i64 G, .int .u64 Q, .slice (some ⟨g, 0, none⟩) ws.length cap', .int .i64 0, .int .i64 0, .int .i64 0, .int .i64 0, .int .u64 0, .int .u64 0, .bool false] from rfl]; have c_R := (Blk.new w1 35 #[.int .i64 0, .int .i64 0, .int .i64 0, .int .i64 0, .int .u64 0, .slice none 0 0, .int .i64 0, .int .i64 0, .int .i64 0, .int .i64 0, .int .u64 0, .int .u64 0, .bool false]).cell; have f_R := (Blk.new w1 35 #[.int .i64 0, .int .i64 0, .int .i64 0, .int .i64 0, .int .u64 0, .slice none 0 0, .int .i64 0, .int .i64 0, .int .i64 0, .int .i64 0, .int .u64 0, .int .u64 0, .bool false]).free)
    | (go_at_call 18; refine (oldest_c ⟨T, S, K, G, Q⟩ ws bb off n cap _ hr hnn hn (hs.later (by exact gotB)) hw).mono ?_; rintro e w2 ⟨rfl, hb2⟩; have N_BC : Blk w2 (W.heap.size) (24) #[.int .i64 T, .int .i64 S, .int .i64 K, .int .i64 G, .int .u64 Q] := Blk.later hb2 (by exact got); have N_Bm : Blk w2 (m) (85) (memCells wb (Mem.start ⟨T, S, K, G, Q⟩ ws)) := Blk.later hb2 (by exact got); have N_Bw : Blk w2 (wb) (22) (wordsV (Mem.start ⟨T, S, K, G, Q⟩ ws).ws) := Blk.later hb2 (by exact got); have N_HB : Below W.heap.size W w2 := below_step (by exact gotB) hb2; (try clear c_BC f_BC c_Bm f_Bm c_Bw f_Bw); (try clear BC Bm Bw HB); have BC := N_BC; have Bm := N_Bm; have Bw := N_Bw; have HB := N_HB; clear N_BC N_Bm N_Bw N_HB; have c_BC := BC.cell; have f_BC := BC.free; have c_Bm := Bm.cell; have f_Bm := Bm.free; have c_Bw := Bw.cell; have f_Bw := Bw.free))
  go_loopw [34] (fun i wr => ∃ k : Nat, (k : Int) ≤ S ∧ i = .int .i64 k ∧ (∀ j : Nat, j < k → ¬ partI ((Mem.start ⟨T, S, K, G, Q⟩ ws).at 4 j) 27 3 = 1) ∧ Blk wr W.heap.size 24 #[.int .i64 T, .int .i64 S, .int .i64 K, .int .i64 G, .int .u64 Q] ∧ Blk wr m 85 (memCells wb (Mem.start ⟨T, S, K, G, Q⟩ ws)) ∧ Blk wr wb 22 (wordsV (Mem.start ⟨T, S, K, G, Q⟩ ws).ws) ∧ Below W.heap.size W wr)
               (fun i _ => S.toNat - (intOf i).toNat)
  case atStart => exact ⟨0, by omega, rfl, by omega, BC, Bm, Bw, HB⟩
  case round =>
    obtain ⟨k, hk, rfl, hb, BC, Bm, Bw, HB⟩ := hrel
    have c_BC := BC.cell; have f_BC := BC.free; have c_Bm := Bm.cell; have f_Bm := Bm.free; have c_Bw := Bw.cell; have f_Bw := Bw.free
    have HW4 := Lib.hid (Mem.at_range ok 4 (k : Int))
    rcases Int.lt_or_le (k : Int) S with hlt | hge
    · cases c1 : (partI ((Mem.start ⟨T, S, K, G, Q⟩ ws).at 4 (k : Int)) 27 3 == 1)
      · go_wp2_with (first
          | (go_at_call 14; refine (at_c ⟨T, S, K, G, Q⟩ ws bb off n cap 4 (k : Int) _ hr hnn hn (hs.later (by exact gotB)) (cell_slot hr _ _ (by omega) (by omega) (by omega) hlt)).mono ?_; rintro e w5 ⟨rfl, hb5⟩; have N_BC : Blk w5 (W.heap.size) (24) #[.int .i64 T, .int .i64 S, .int .i64 K, .int .i64 G, .int .u64 Q] := Blk.later hb5 (by exact got); have N_Bm : Blk w5 (m) (85) (memCells wb (Mem.start ⟨T, S, K, G, Q⟩ ws)) := Blk.later hb5 (by exact got); have N_Bw : Blk w5 (wb) (22) (wordsV (Mem.start ⟨T, S, K, G, Q⟩ ws).ws) := Blk.later hb5 (by exact got); have N_HB : Below W.heap.size W w5 := below_step (by exact gotB) hb5; (try clear c_BC f_BC c_Bm f_Bm c_Bw f_Bw); (try clear BC Bm Bw HB); have BC := N_BC; have Bm := N_Bm; have Bw := N_Bw; have HB := N_HB; clear N_BC N_Bm N_Bw N_HB)
          | (go_at_call 13; refine (state_c _ HW4.out _).mono ?_; rintro e w6 ⟨rfl, hb6⟩; have N_BC : Blk w6 (W.heap.size) (24) #[.int .i64 T, .int .i64 S, .int .i64 K, .int .i64 G, .int .u64 Q] := Blk.later hb6 (by exact got); have N_Bm : Blk w6 (m) (85) (memCells wb (Mem.start ⟨T, S, K, G, Q⟩ ws)) := Blk.later hb6 (by exact got); have N_Bw : Blk w6 (wb) (22) (wordsV (Mem.start ⟨T, S, K, G, Q⟩ ws).ws) := Blk.later hb6 (by exact got); have N_HB : Below W.heap.size W w6 := below_step (by exact gotB) hb6; (try clear c_BC f_BC c_Bm f_Bm c_Bw f_Bw); (try clear BC Bm Bw HB); have BC := N_BC; have Bm := N_Bm; have Bw := N_Bw; have HB := N_HB; clear N_BC N_Bm N_Bw N_HB; have c_BC := BC.cell; have f_BC := BC.free; have c_Bm := Bm.cell; have f_Bm := Bm.free; have c_Bw := Bw.cell; have f_Bw := Bw.free))
        go_roundw
        case rel =>
          refine ⟨k + 1, by omega, by go_num, ?_, BC, Bm, Bw, HB⟩
          intro j hj
          rcases Nat.lt_or_ge j k with h | h
          · exact hb j h
          · obtain rfl : j = k := by omega
            simpa using c1
        case measure => simp [intOf]; omega
      · go_wp2_with (first
          | (go_at_call 14; refine (at_c ⟨T, S, K, G, Q⟩ ws bb off n cap 4 (k : Int) _ hr hnn hn (hs.later (by exact gotB)) (cell_slot hr _ _ (by omega) (by omega) (by omega) hlt)).mono ?_; rintro e w5 ⟨rfl, hb5⟩; have N_BC : Blk w5 (W.heap.size) (24) #[.int .i64 T, .int .i64 S, .int .i64 K, .int .i64 G, .int .u64 Q] := Blk.later hb5 (by exact got); have N_Bm : Blk w5 (m) (85) (memCells wb (Mem.start ⟨T, S, K, G, Q⟩ ws)) := Blk.later hb5 (by exact got); have N_Bw : Blk w5 (wb) (22) (wordsV (Mem.start ⟨T, S, K, G, Q⟩ ws).ws) := Blk.later hb5 (by exact got); have N_HB : Below W.heap.size W w5 := below_step (by exact gotB) hb5; (try clear c_BC f_BC c_Bm f_Bm c_Bw f_Bw); (try clear BC Bm Bw HB); have BC := N_BC; have Bm := N_Bm; have Bw := N_Bw; have HB := N_HB; clear N_BC N_Bm N_Bw N_HB)
          | (go_at_call 13; refine (state_c _ HW4.out _).mono ?_; rintro e w6 ⟨rfl, hb6⟩; have N_BC : Blk w6 (W.heap.size) (24) #[.int .i64 T, .int .i64 S, .int .i64 K, .int .i64 G, .int .u64 Q] := Blk.later hb6 (by exact got); have N_Bm : Blk w6 (m) (85) (memCells wb (Mem.start ⟨T, S, K, G, Q⟩ ws)) := Blk.later hb6 (by exact got); have N_Bw : Blk w6 (wb) (22) (wordsV (Mem.start ⟨T, S, K, G, Q⟩ ws).ws) := Blk.later hb6 (by exact got); have N_HB : Below W.heap.size W w6 := below_step (by exact gotB) hb6; (try clear c_BC f_BC c_Bm f_Bm c_Bw f_Bw); (try clear BC Bm Bw HB); have BC := N_BC; have Bm := N_Bm; have Bw := N_Bw; have HB := N_HB; clear N_BC N_Bm N_Bw N_HB; have c_BC := BC.cell; have f_BC := BC.free; have c_Bm := Bm.cell; have f_Bm := Bm.free; have c_Bw := Bw.cell; have f_Bw := Bw.free)
          | (go_at_call 11; refine (Ev.alive_calls _).mono ?_; rintro e w3 ⟨rfl, hb3⟩; have N_BC : Blk w3 (W.heap.size) (24) #[.int .i64 T, .int .i64 S, .int .i64 K, .int .i64 G, .int .u64 Q] := Blk.later hb3 (by exact got); have N_Bm : Blk w3 (m) (85) (memCells wb (Mem.start ⟨T, S, K, G, Q⟩ ws)) := Blk.later hb3 (by exact got); have N_Bw : Blk w3 (wb) (22) (wordsV (Mem.start ⟨T, S, K, G, Q⟩ ws).ws) := Blk.later hb3 (by exact got); have N_HB : Below W.heap.size W w3 := below_step (by exact gotB) hb3; (try clear c_BC f_BC c_Bm f_Bm c_Bw f_Bw); (try clear BC Bm Bw HB); have BC := N_BC; have Bm := N_Bm; have Bw := N_Bw; have HB := N_HB; clear N_BC N_Bm N_Bw N_HB))
        go_ret
        exact ⟨rfl, HB⟩
    · have he : (k : Int) = S := by omega
      have hb' : ∀ j : Nat, (j : Int) < S → ¬ partI ((Mem.start ⟨T, S, K, G, Q⟩ ws).at 4 j) 27 3 = 1 := fun j hj => hb j (by omega)
      cases c2 : (oldN (Mem.start ⟨T, S, K, G, Q⟩ ws) S.toNat).2
      · go_wp2_with (first
          | (go_at_call 10; refine (new_c T S K G Q slot 18446744073709551615 _ (by omega) (by omega)).mono ?_; rintro e w7 ⟨a, k1, k2, k3, rfl, hA, hb7, ga, g1, g2, g3⟩; have hs7 := HB.size; have N_BC : Blk w7 (W.heap.size) (24) #[.int .i64 T, .int .i64 S, .int .i64 K, .int .i64 G, .int .u64 Q] := Blk.later hb7 (by exact got); have N_Bm : Blk w7 (m) (85) (memCells wb (Mem.start ⟨T, S, K, G, Q⟩ ws)) := Blk.later hb7 (by exact got); have N_Bw : Blk w7 (wb) (22) (wordsV (Mem.start ⟨T, S, K, G, Q⟩ ws).ws) := Blk.later hb7 (by exact got); have N_HB : Below W.heap.size W w7 := below_step (by exact gotB) hb7; (try clear c_BC f_BC c_Bm f_Bm c_Bw f_Bw); (try clear BC Bm Bw HB); have BC := N_BC; have Bm := N_Bm; have Bw := N_Bw; have HB := N_HB; clear N_BC N_Bm N_Bw N_HB; have c_BC := BC.cell; have f_BC := BC.free; have c_Bm := Bm.cell; have f_Bm := Bm.free; have c_Bw := Bw.cell; have f_Bw := Bw.free)
          | (go_at_call 12; refine (lawends_c a k1 k2 k3 m wb 100 _ (Mem.start ⟨T, S, K, G, Q⟩ ws) _ hA ⟨Bm, Bw, ok⟩ (by show S ≤ 900; omega) (by omega)).mono ?_; rintro e w8 ⟨j, rfl, hj1, hj2, hA8, hM8, hK8⟩; have hz8 := HB.size; replace HB := Below.trans HB (Keep.below hK8 (by omega) (by intro i hi; (try dsimp only); omega)))
          | (go_at_call 11; refine (Ev.alive_calls _).mono ?_; rintro e w3 ⟨rfl, hb3⟩; replace HB := below_step HB hb3))
        go_ret
        have hl := ended (Mem.start ⟨T, S, K, G, Q⟩ ws) S slot 18446744073709551615 j ⟨by omega, by omega⟩ hj2
        have hy := young (Mem.start ⟨T, S, K, G, Q⟩ ws) S slot (by omega) hb' 18446744073709551615 (by rw [c2]; rfl)
        have hf : (stepN j (AgeS.new S slot 18446744073709551615, (Mem.start ⟨T, S, K, G, Q⟩ ws))).1.later = false := by
          cases hc : (stepN j (AgeS.new S slot 18446744073709551615, (Mem.start ⟨T, S, K, G, Q⟩ ws))).1.later
          · rfl
          · exact absurd (hl.2.1 hc) hy
        exact ⟨by rw [hf]; rfl, HB⟩
      · go_wp2_with (first
          | (go_at_call 10; refine (new_c T S K G Q slot (oldN (Mem.start ⟨T, S, K, G, Q⟩ ws) S.toNat).1 _ (by omega) (by omega)).mono ?_; rintro e w7 ⟨a, k1, k2, k3, rfl, hA, hb7, ga, g1, g2, g3⟩; have hs7 := HB.size; have N_BC : Blk w7 (W.heap.size) (24) #[.int .i64 T, .int .i64 S, .int .i64 K, .int .i64 G, .int .u64 Q] := Blk.later hb7 (by exact got); have N_Bm : Blk w7 (m) (85) (memCells wb (Mem.start ⟨T, S, K, G, Q⟩ ws)) := Blk.later hb7 (by exact got); have N_Bw : Blk w7 (wb) (22) (wordsV (Mem.start ⟨T, S, K, G, Q⟩ ws).ws) := Blk.later hb7 (by exact got); have N_HB : Below W.heap.size W w7 := below_step (by exact gotB) hb7; (try clear c_BC f_BC c_Bm f_Bm c_Bw f_Bw); (try clear BC Bm Bw HB); have BC := N_BC; have Bm := N_Bm; have Bw := N_Bw; have HB := N_HB; clear N_BC N_Bm N_Bw N_HB; have c_BC := BC.cell; have f_BC := BC.free; have c_Bm := Bm.cell; have f_Bm := Bm.free; have c_Bw := Bw.cell; have f_Bw := Bw.free)
          | (go_at_call 12; refine (lawends_c a k1 k2 k3 m wb 100 _ (Mem.start ⟨T, S, K, G, Q⟩ ws) _ hA ⟨Bm, Bw, ok⟩ (by show S ≤ 900; omega) (by omega)).mono ?_; rintro e w8 ⟨j, rfl, hj1, hj2, hA8, hM8, hK8⟩; have hz8 := HB.size; replace HB := Below.trans HB (Keep.below hK8 (by omega) (by intro i hi; (try dsimp only); omega)))
          | (go_at_call 11; refine (Ev.alive_calls _).mono ?_; rintro e w3 ⟨rfl, hb3⟩; replace HB := below_step HB hb3))
        go_ret
        have hl := ended (Mem.start ⟨T, S, K, G, Q⟩ ws) S slot (oldN (Mem.start ⟨T, S, K, G, Q⟩ ws) S.toNat).1 j ⟨by omega, by omega⟩ hj2
        have hy := young (Mem.start ⟨T, S, K, G, Q⟩ ws) S slot (by omega) hb' (oldN (Mem.start ⟨T, S, K, G, Q⟩ ws) S.toNat).1 (by rw [c2]; rfl)
        have hf : (stepN j (AgeS.new S slot (oldN (Mem.start ⟨T, S, K, G, Q⟩ ws) S.toNat).1, (Mem.start ⟨T, S, K, G, Q⟩ ws))).1.later = false := by
          cases hc : (stepN j (AgeS.new S slot (oldN (Mem.start ⟨T, S, K, G, Q⟩ ws) S.toNat).1, (Mem.start ⟨T, S, K, G, Q⟩ ws))).1.later
          · rfl
          · exact absurd (hl.2.1 hc) hy
        exact ⟨by rw [hf]; rfl, HB⟩
theorem walkAgeYoung (W : World) (T S K G Q : Int) (wT : (Lit.int .i64 T).wf = true) (wS : (Lit.int .i64 S).wf = true) (wK : (Lit.int .i64 K).wf = true) (wG : (Lit.int .i64 G).wf = true) (wQ : (Lit.int .u64 Q).wf = true)
    (a : Option Addr) (n cap : Nat) (zs : List Int) (hz : IsRow .u64 W a n cap zs) (slot : Int) (wx : (Lit.int .i64 slot).wf = true) :
    Calls Try.prog 6 #[.agg #[.int .i64 T, .int .i64 S, .int .i64 K, .int .i64 G, .int .u64 Q], .slice a n cap, .int .i64 slot] W fun e W' => e = .returned (.bool true) ∧ Below W.heap.size W W' := by
  by_cases h : (Cfg.Rt ⟨T, S, K, G, Q⟩ ∧ (n : Int) = Cfg.len ⟨T, S, K, G, Q⟩)
  · obtain ⟨hr, hn⟩ := h
    obtain ⟨bb, off, ws, rfl, hs, hnn, hw, hc⟩ := hz.given hr hn
    exact young_some W T S K G Q bb off n cap ws slot hr hnn hn hs hw
  · exact young_none W T S K G Q a n cap slot h
end Go.Proofs.Ytbgdhahdihbpaaa.Pure
