/- The law that what is later for a number is later for each greater one, walked. Conditions stand in the statement. -/
import Derived.Test.YtbgdhahdihbpaaaPackG
import Derived.Test.YtbgdhahdihbpaaaLawKitQ
import Derived.Test.YtbgdhahdihbpaaaAliveQ
import Derived.Test.YtbgdhahdihbpaaaNewTwoQ
namespace Go.Proofs.Ytbgdhahdihbpaaa.Pure
open Go.RowKit Go.IntWalk Go.Proofs.Ytbgdhahdihbpaaa.Own Go.Proofs.Ytbgdhahdihbpaaa.Model Go.Proofs.Ytbgdhahdihbpaaa.Store Go.Proofs.Ytbgdhahdihbpaaa.Status Go.Proofs.Ytbgdhahdihbpaaa.Age Go.Proofs.Ytbgdhahdihbpaaa.Open Go.Proofs.Ytbgdhahdihbpaaa.PAgeOldest
open Go.Proofs.YtbgdhahdihbpaaaW.PrintLast Go.Proofs.YtbgdhahdihbpaaaW.PrintMore
attribute [local go_sem] max2_int min2_int
set_option linter.unusedSimpArgs false
set_option linter.unusedVariables false
theorem any_congr {A B : Mem} (hc : B.c = A.c) (hw : B.ws = A.ws) (S slot n p : Int) : anyFrom B S slot n p ↔ anyFrom A S slot n p := by
  unfold anyFrom goesAt
  simp only [at_of hc hw]

theorem numbers_none (W : World) (T S K G Q : Int) (a : Option Addr) (n cap : Nat) (x y z : Int) (h : ¬ (Cfg.Rt ⟨T, S, K, G, Q⟩ ∧ (n : Int) = Cfg.len ⟨T, S, K, G, Q⟩)) :
    Calls Try.prog 5 #[.agg #[.int .i64 T, .int .i64 S, .int .i64 K, .int .i64 G, .int .u64 Q], .slice a n cap, .agg #[.int .u64 x, .int .u64 y, .int .u64 z]] W fun e W' => e = .returned (.bool true) ∧ Below W.heap.size W W' := by
  have HA := Lib.hid h
  have HB := Below.refl W.heap.size W
  clear h
  go_enter Try.func5, Try.ntmps5
  go_wp2_with (first
    | (go_at_call 9; refine (lawof_none ⟨T, S, K, G, Q⟩ n a cap _ HA.out).mono ?_; rintro e w1 ⟨rfl, hb1⟩; have N_BC : Blk w1 (W.heap.size) (24) #[.int .i64 T, .int .i64 S, .int .i64 K, .int .i64 G, .int .u64 Q] := Blk.later hb1 (by exact got); have N_BZ : Blk w1 (W.heap.size + 1) (51) #[.int .u64 x, .int .u64 y, .int .u64 z] := Blk.later hb1 (by exact got); have N_HB : Below W.heap.size W w1 := below_step (by exact gotB) hb1; (try clear c_BC f_BC c_BZ f_BZ); (try clear BC BZ HB); have BC := N_BC; have BZ := N_BZ; have HB := N_HB; clear N_BC N_BZ N_HB; have c_BC := BC.cell; have f_BC := BC.free; have c_BZ := BZ.cell; have f_BZ := BZ.free; have hz1 := HB.size; have lC := BC.lt; have lZ := BZ.lt; unfold refZero; have c_R := (Blk.new w1 35 #[.int .i64 0, .int .i64 0, .int .i64 0, .int .i64 0, .int .u64 0, .slice none 0 0, .int .i64 0, .int .i64 0, .int .i64 0, .int .i64 0, .int .u64 0, .int .u64 0, .bool false]).cell; have f_R := (Blk.new w1 35 #[.int .i64 0, .int .i64 0, .int .i64 0, .int .i64 0, .int .u64 0, .slice none 0 0, .int .i64 0, .int .i64 0, .int .i64 0, .int .i64 0, .int .u64 0, .int .u64 0, .bool false]).free)
    | (go_at_call 11; refine (Ev.alive_calls _).mono ?_; rintro e w3 ⟨rfl, hb3⟩; have N_BC : Blk w3 (W.heap.size) (24) #[.int .i64 T, .int .i64 S, .int .i64 K, .int .i64 G, .int .u64 Q] := Blk.later hb3 (by exact got); have N_BZ : Blk w3 (W.heap.size + 1) (51) #[.int .u64 x, .int .u64 y, .int .u64 z] := Blk.later hb3 (by exact got); have N_HB : Below W.heap.size W w3 := below_step (by exact gotB) hb3; (try clear c_BC f_BC c_BZ f_BZ); (try clear BC BZ HB); have BC := N_BC; have BZ := N_BZ; have HB := N_HB; clear N_BC N_BZ N_HB))
  go_ret
  exact ⟨rfl, HB⟩

set_option maxHeartbeats 4000000 in
theorem numbers_some (W : World) (T S K G Q : Int) (bb off n cap : Nat) (ws : List Int) (x y z : Int) (hr : Cfg.Rt ⟨T, S, K, G, Q⟩) (hnn : ws.length = n) (hn : (n : Int) = Cfg.len ⟨T, S, K, G, Q⟩) (hs : Lies W ⟨bb, off, none⟩ ws) (hw : ∀ x ∈ ws, 0 ≤ x ∧ x < 18446744073709551616) (hx0 : 0 ≤ x ∧ x < 18446744073709551616) :
    Calls Try.prog 5 #[.agg #[.int .i64 T, .int .i64 S, .int .i64 K, .int .i64 G, .int .u64 Q], .slice (some ⟨bb, off, none⟩) n cap, .agg #[.int .u64 x, .int .u64 y, .int .u64 z]] W fun e W' => e = .returned (.bool true) ∧ Below W.heap.size W W' := by
  have ok : (Mem.start ⟨T, S, K, G, Q⟩ ws).Ok := ⟨hr, by show (ws.length : Int) = _; rw [hnn]; exact hn, hw⟩
  have hS : 1 ≤ S ∧ S ≤ 12 := ⟨hr.2.2.1, hr.2.2.2.1⟩
  have hw1 : IntKind.u64.wrap S = S := wraps_u64 _ (by omega) (by omega)
  have hS0 : (S == 0) = false := by simp; omega
  have hS1 : ¬ S = 0 := by omega
  have HB := Below.refl W.heap.size W
  go_enter Try.func5, Try.ntmps5
  go_wp2_with (go_at_call 9; refine (lawof_c ⟨T, S, K, G, Q⟩ ws n ⟨bb, off, none⟩ cap _ hr hnn hn (hs.later (by exact gotB)) hw).mono ?_; rintro e w1 ⟨m, g, cap', rfl, wb, cur, hMm, hR, hb1, gm, gwb, gg, _⟩; simp at gm gwb; have N_BC : Blk w1 (W.heap.size) (24) #[.int .i64 T, .int .i64 S, .int .i64 K, .int .i64 G, .int .u64 Q] := Blk.later hb1 (by exact got); have N_BZ : Blk w1 (W.heap.size + 1) (51) #[.int .u64 x, .int .u64 y, .int .u64 z] := Blk.later hb1 (by exact got); have N_HB : Below W.heap.size W w1 := below_step (by exact gotB) hb1; (try clear c_BC f_BC c_BZ f_BZ); (try clear BC BZ HB); have BC := N_BC; have BZ := N_BZ; have HB := N_HB; clear N_BC N_BZ N_HB; have c_BC := BC.cell; have f_BC := BC.free; have c_BZ := BZ.cell; have f_BZ := BZ.free; have hz1 := HB.size; have Bm := hMm.obj; have Bw := hMm.words; have lm := Bm.lt; have lw := Bw.lt; have lC := BC.lt; have lZ := BZ.lt; rw [show refCells g cap' (Mem.start ⟨T, S, K, G, Q⟩ ws) = #[.int .i64 T, .int .i64 S, .int .i64 K, .int .i64 G, .int .u64 Q, .slice (some ⟨g, 0, none⟩) ws.length cap', .int .i64 0, .int .i64 0, .int .i64 0, .int .i64 0, .int .u64 0, .int .u64 0, .bool false] from rfl]; have c_R := (Blk.new w1 35 #[.int .i64 0, .int .i64 0, .int .i64 0, .int .i64 0, .int .u64 0, .slice none 0 0, .int .i64 0, .int .i64 0, .int .i64 0, .int .i64 0, .int .u64 0, .int .u64 0, .bool false]).cell; have f_R := (Blk.new w1 35 #[.int .i64 0, .int .i64 0, .int .i64 0, .int .i64 0, .int .u64 0, .slice none 0 0, .int .i64 0, .int .i64 0, .int .i64 0, .int .i64 0, .int .u64 0, .int .u64 0, .bool false]).free)
  obtain ⟨p, hp⟩ : ∃ p, (if z < y then z else y) = p := ⟨_, rfl⟩
  obtain ⟨q, hq⟩ : ∃ q, (if y < z then z else y) = q := ⟨_, rfl⟩
  refine begin_ (n := 22) (S := fun w' => Blk w' (W.heap.size) (24) #[.int .i64 T, .int .i64 S, .int .i64 K, .int .i64 G, .int .u64 Q] ∧ Blk w' (W.heap.size + 1) (51) #[.int .u64 x, .int .u64 y, .int .u64 z] ∧ Blk w' (m) (85) (memCells wb (Mem.start ⟨T, S, K, G, Q⟩ ws)) ∧ Blk w' (wb) (22) (wordsV (Mem.start ⟨T, S, K, G, Q⟩ ws).ws) ∧ Below W.heap.size W w') (ds := []) #[false, false, false, false, false, false, false, false, false, false, false, false, false, false, false, false, false, false, false, false, false, false] (by kernel_rfl) rfl rfl ⟨(by ((exact got); done)), (by ((exact got); done)), (by ((exact got); done)), (by ((exact got); done)), (by ((exact gotB); done))⟩ (fun wd hHeld => ?_)
  (try clear BC)
  (try clear BZ)
  (try clear Bm)
  (try clear Bw)
  (try clear HB)
  have ⟨BC, BZ, Bm, Bw, HB⟩ := hHeld
  refine pure_ (i := 1) (N := (some 40)) (v := ?_) (a' := ?_) #[false, true, false, false, false, false, false, false, false, false, false, false, false, false, false, false, false, false, false, false, false, false] rfl rfl (by kernel_rfl) (fun _ _ _ h => h) (Or.inl ⟨by rfl, ?_⟩) ?_ ?_; rotate_left; (intro w'; go_simp; with_reducible rfl); rotate_left; (simp only [Act.put, List.setIfInBounds_toArray, List.set_cons_zero, List.set_cons_succ]; rfl)
  refine pure_ (i := 2) (N := (some 41)) (v := ?_) (a' := ?_) #[false, true, true, false, false, false, false, false, false, false, false, false, false, false, false, false, false, false, false, false, false, false] rfl rfl (by kernel_rfl) (fun _ _ _ h => h) (Or.inl ⟨by rfl, ?_⟩) ?_ ?_; rotate_left; (intro w'; go_simp; with_reducible rfl); rotate_left; (simp only [Act.put, List.setIfInBounds_toArray, List.set_cons_zero, List.set_cons_succ]; rfl)
  refine pure_ (i := 4) (N := (some 43)) (v := ?_) (a' := ?_) #[false, true, true, false, true, false, false, false, false, false, false, false, false, false, false, false, false, false, false, false, false, false] rfl rfl (by kernel_rfl) (fun _ _ _ h => h) (Or.inl ⟨by rfl, ?_⟩) ?_ ?_; rotate_left; (intro w'; go_simp; with_reducible rfl); rotate_left; (simp only [Act.put, List.setIfInBounds_toArray, List.set_cons_zero, List.set_cons_succ]; rfl)
  refine pure_ (i := 9) (N := (some 48)) (v := ?_) (a' := ?_) #[false, true, true, false, true, false, false, false, false, true, false, false, false, false, false, false, false, false, false, false, false, false] rfl rfl (by kernel_rfl) (fun _ _ _ h => h) (Or.inl ⟨by rfl, ?_⟩) ?_ ?_; rotate_left; (intro w'; go_simp; with_reducible rfl); rotate_left; (simp only [Act.put, List.setIfInBounds_toArray, List.set_cons_zero, List.set_cons_succ]; rfl)
  refine pure_ (i := 10) (N := (some 49)) (v := ?_) (a' := ?_) #[false, true, true, false, true, false, false, false, false, true, true, false, false, false, false, false, false, false, false, false, false, false] rfl rfl (by kernel_rfl) (fun _ _ _ h => h) (Or.inl ⟨by rfl, ?_⟩) ?_ ?_; rotate_left; (intro w'; go_simp; with_reducible rfl); rotate_left; (simp only [Act.put, List.setIfInBounds_toArray, List.set_cons_zero, List.set_cons_succ]; rfl)
  refine pure_ (i := 12) (N := (some 51)) (v := ?_) (a' := ?_) #[false, true, true, false, true, false, false, false, false, true, true, false, true, false, false, false, false, false, false, false, false, false] rfl rfl (by kernel_rfl) (fun _ _ _ h => h) (Or.inl ⟨by rfl, ?_⟩) ?_ ?_; rotate_left; (intro w'; go_simp; with_reducible rfl); rotate_left; (simp only [Act.put, List.setIfInBounds_toArray, List.set_cons_zero, List.set_cons_succ]; rfl)
  refine pure_ (i := 17) (N := (some 56)) (v := ?_) (a' := ?_) #[false, true, true, false, true, false, false, false, false, true, true, false, true, false, false, false, false, true, false, false, false, false] rfl rfl (by kernel_rfl) (fun _ _ _ h => h) (Or.inl ⟨by rfl, ?_⟩) ?_ ?_; rotate_left; (intro w'; go_simp; with_reducible rfl); rotate_left; (simp only [Act.put, List.setIfInBounds_toArray, List.set_cons_zero, List.set_cons_succ]; rfl)
  refine take_ (i := 0) (N := (some 39)) (v := ?_) (a' := ?_) #[true, true, true, false, true, false, false, false, false, true, true, false, true, false, false, false, false, true, false, false, false, false] rfl rfl (by kernel_rfl) (fun _ _ _ h => h) (Or.inl ⟨by rfl, ?_⟩) hHeld ?_ ?_; rotate_left; (rintro w' ⟨s0, s1, s2, s3, s4⟩; have c_0 := s0.cell; have f_0 := s0.free; have c_1 := s1.cell; have f_1 := s1.free; have c_2 := s2.cell; have f_2 := s2.free; have c_3 := s3.cell; have f_3 := s3.free; go_simp; with_reducible rfl); rotate_left; (simp only [Act.put, List.setIfInBounds_toArray, List.set_cons_zero, List.set_cons_succ]; rfl)
  refine take_ (i := 3) (N := (some 42)) (v := ?_) (a' := ?_) #[true, true, true, true, true, false, false, false, false, true, true, false, true, false, false, false, false, true, false, false, false, false] rfl rfl (by kernel_rfl) (fun _ _ _ h => h) (Or.inl ⟨by rfl, ?_⟩) hHeld ?_ ?_; rotate_left; (rintro w' ⟨s0, s1, s2, s3, s4⟩; have c_0 := s0.cell; have f_0 := s0.free; have c_1 := s1.cell; have f_1 := s1.free; have c_2 := s2.cell; have f_2 := s2.free; have c_3 := s3.cell; have f_3 := s3.free; go_simp; with_reducible rfl); rotate_left; (simp only [Act.put, List.setIfInBounds_toArray, List.set_cons_zero, List.set_cons_succ]; rfl)
  refine take_ (i := 5) (N := (some 44)) (v := ?_) (a' := ?_) #[true, true, true, true, true, true, false, false, false, true, true, false, true, false, false, false, false, true, false, false, false, false] rfl rfl (by kernel_rfl) (fun _ _ _ h => h) (Or.inl ⟨by rfl, ?_⟩) hHeld ?_ ?_; rotate_left; (rintro w' ⟨s0, s1, s2, s3, s4⟩; have c_0 := s0.cell; have f_0 := s0.free; have c_1 := s1.cell; have f_1 := s1.free; have c_2 := s2.cell; have f_2 := s2.free; have c_3 := s3.cell; have f_3 := s3.free; go_simp; with_reducible rfl); rotate_left; (simp only [Act.put, List.setIfInBounds_toArray, List.set_cons_zero, List.set_cons_succ]; rfl)
  refine pure_ (i := 6) (N := (some 45)) (v := ?_) (a' := ?_) #[true, true, true, true, true, true, true, false, false, true, true, false, true, false, false, false, false, true, false, false, false, false] rfl rfl (by kernel_rfl) (fun _ _ _ h => h) (Or.inl ⟨by rfl, ?_⟩) ?_ ?_; rotate_left; (intro w'; go_simp; with_reducible rfl); rotate_left; (simp only [Act.put, List.setIfInBounds_toArray, List.set_cons_zero, List.set_cons_succ]; rfl)
  refine take_ (i := 8) (N := (some 47)) (v := ?_) (a' := ?_) #[true, true, true, true, true, true, true, false, true, true, true, false, true, false, false, false, false, true, false, false, false, false] rfl rfl (by kernel_rfl) (fun _ _ _ h => h) (Or.inl ⟨by rfl, ?_⟩) hHeld ?_ ?_; rotate_left; (rintro w' ⟨s0, s1, s2, s3, s4⟩; have c_0 := s0.cell; have f_0 := s0.free; have c_1 := s1.cell; have f_1 := s1.free; have c_2 := s2.cell; have f_2 := s2.free; have c_3 := s3.cell; have f_3 := s3.free; go_simp; with_reducible rfl); rotate_left; (simp only [Act.put, List.setIfInBounds_toArray, List.set_cons_zero, List.set_cons_succ]; rfl)
  refine take_ (i := 11) (N := (some 50)) (v := ?_) (a' := ?_) #[true, true, true, true, true, true, true, false, true, true, true, true, true, false, false, false, false, true, false, false, false, false] rfl rfl (by kernel_rfl) (fun _ _ _ h => h) (Or.inl ⟨by rfl, ?_⟩) hHeld ?_ ?_; rotate_left; (rintro w' ⟨s0, s1, s2, s3, s4⟩; have c_0 := s0.cell; have f_0 := s0.free; have c_1 := s1.cell; have f_1 := s1.free; have c_2 := s2.cell; have f_2 := s2.free; have c_3 := s3.cell; have f_3 := s3.free; go_simp; with_reducible rfl); rotate_left; (simp only [Act.put, List.setIfInBounds_toArray, List.set_cons_zero, List.set_cons_succ]; rfl)
  refine take_ (i := 13) (N := (some 52)) (v := ?_) (a' := ?_) #[true, true, true, true, true, true, true, false, true, true, true, true, true, true, false, false, false, true, false, false, false, false] rfl rfl (by kernel_rfl) (fun _ _ _ h => h) (Or.inl ⟨by rfl, ?_⟩) hHeld ?_ ?_; rotate_left; (rintro w' ⟨s0, s1, s2, s3, s4⟩; have c_0 := s0.cell; have f_0 := s0.free; have c_1 := s1.cell; have f_1 := s1.free; have c_2 := s2.cell; have f_2 := s2.free; have c_3 := s3.cell; have f_3 := s3.free; go_simp; with_reducible rfl); rotate_left; (simp only [Act.put, List.setIfInBounds_toArray, List.set_cons_zero, List.set_cons_succ]; rfl)
  refine pure_ (i := 14) (N := (some 53)) (v := ?_) (a' := ?_) #[true, true, true, true, true, true, true, false, true, true, true, true, true, true, true, false, false, true, false, false, false, false] rfl rfl (by kernel_rfl) (fun _ _ _ h => h) (Or.inl ⟨by rfl, ?_⟩) ?_ ?_; rotate_left; (intro w'; go_simp; with_reducible rfl); rotate_left; (simp only [Act.put, List.setIfInBounds_toArray, List.set_cons_zero, List.set_cons_succ]; rfl)
  refine take_ (i := 16) (N := (some 55)) (v := ?_) (a' := ?_) #[true, true, true, true, true, true, true, false, true, true, true, true, true, true, true, false, true, true, false, false, false, false] rfl rfl (by kernel_rfl) (fun _ _ _ h => h) (Or.inl ⟨by rfl, ?_⟩) hHeld ?_ ?_; rotate_left; (rintro w' ⟨s0, s1, s2, s3, s4⟩; have c_0 := s0.cell; have f_0 := s0.free; have c_1 := s1.cell; have f_1 := s1.free; have c_2 := s2.cell; have f_2 := s2.free; have c_3 := s3.cell; have f_3 := s3.free; go_simp; with_reducible rfl); rotate_left; (simp only [Act.put, List.setIfInBounds_toArray, List.set_cons_zero, List.set_cons_succ]; rfl)
  refine one_ (i := 7) (N := (some 46)) #[true, true, true, true, true, true, true, true, true, true, true, true, true, true, true, false, true, true, false, false, false, false] rfl rfl (by kernel_rfl) (by decide) (fun Kc hK => ?_)
  try clear hHeld
  refine goes_ Try.func10 (by kernel_rfl) rfl #[.agg #[.int .i64 T, .int .i64 S, .int .i64 K, .int .i64 G, .int .u64 Q], .int .i64 (wrap64 (x % S)), .int .u64 (p)] (by rfl) rfl rfl (by (try simp only [List.map_toArray, List.map_cons, List.map_nil]); first | done | rfl) ?_
  refine (new_c2 T S K G Q (wrap64 (x % S)) (p) _ _ (by omega) (by omega) (Nat.succ_le_of_lt BZ.lt)).mono ?_
  rintro e w5 ⟨a, k1, k2, k3, rfl, hA, hbl, ga, g1, g2, g3, qa, qk⟩
  refine ⟨_, rfl, ?_⟩
  replace BC := Blk.later hbl BC
  replace BZ := Blk.later hbl BZ
  replace Bm := Blk.later hbl Bm
  replace Bw := Blk.later hbl Bw
  replace HB := below_step HB hbl
  have la := hA.obj.lt
  have la1 := hA.next.b1.lt
  refine hK.out _ _ ⟨BC, BZ, Bm, Bw, HB⟩ (fun hHeld => ?_)
  clear hK Kc
  refine norm_ (a' := ?_) ?_ ?_; rotate_left; (first | (show Act.put _ (some 46) _ = _; (simp only [Act.put, List.setIfInBounds_toArray, List.set_cons_zero, List.set_cons_succ]; rfl)) | rfl)
  refine one_ (i := 15) (N := (some 54)) #[true, true, true, true, true, true, true, true, true, true, true, true, true, true, true, true, true, true, false, false, false, false] rfl rfl (by kernel_rfl) (by decide) (fun Kc hK => ?_)
  try clear hHeld
  refine goes_ Try.func10 (by kernel_rfl) rfl #[.agg #[.int .i64 T, .int .i64 S, .int .i64 K, .int .i64 G, .int .u64 Q], .int .i64 (wrap64 (x % S)), .int .u64 (q)] (by rfl) rfl rfl (by (try simp only [List.map_toArray, List.map_cons, List.map_nil]); first | done | rfl) ?_
  refine (new_c2 T S K G Q (wrap64 (x % S)) (q) _ _ (by omega) (by omega) (Nat.succ_le_of_lt BZ.lt)).mono ?_
  rintro e w6 ⟨b, l1, l2, l3, rfl, hC, hbl, gb, f1, f2, f3, qb, ql⟩
  refine ⟨_, rfl, ?_⟩
  replace BC := Blk.later hbl BC
  replace BZ := Blk.later hbl BZ
  replace Bm := Blk.later hbl Bm
  replace Bw := Blk.later hbl Bw
  replace HB := below_step HB hbl
  replace hA := hA.later hbl
  have lb := hC.obj.lt
  have lb1 := hC.next.b1.lt
  refine hK.out _ _ ⟨BC, BZ, Bm, Bw, HB⟩ (fun hHeld => ?_)
  clear hK Kc
  refine norm_ (a' := ?_) ?_ ?_; rotate_left; (first | (show Act.put _ (some 54) _ = _; (simp only [Act.put, List.setIfInBounds_toArray, List.set_cons_zero, List.set_cons_succ]; rfl)) | rfl)
  refine one_ (i := 18) (N := (some 57)) #[true, true, true, true, true, true, true, true, true, true, true, true, true, true, true, true, true, true, true, false, false, false] rfl rfl (by kernel_rfl) (by decide) (fun Kc hK => ?_)
  try clear hHeld
  refine goes_ Try.func10 (by kernel_rfl) rfl #[.agg #[.int .i64 T, .int .i64 S, .int .i64 K, .int .i64 G, .int .u64 Q], .int .i64 (wrap64 (x % S)), .int .u64 (0)] (by rfl) rfl rfl (by (try simp only [List.map_toArray, List.map_cons, List.map_nil]); first | done | rfl) ?_
  refine (new_c2 T S K G Q (wrap64 (x % S)) (0) _ _ (by omega) (by omega) (Nat.succ_le_of_lt BZ.lt)).mono ?_
  rintro e w7 ⟨d, r1, r2, r3, rfl, hD, hbl, gd, i1, i2, i3, qd, qr⟩
  refine ⟨_, rfl, ?_⟩
  replace BC := Blk.later hbl BC
  replace BZ := Blk.later hbl BZ
  replace Bm := Blk.later hbl Bm
  replace Bw := Blk.later hbl Bw
  replace HB := below_step HB hbl
  replace hA := hA.later hbl
  replace hC := hC.later hbl
  refine hK.out _ _ ⟨BC, BZ, Bm, Bw, HB⟩ (fun hHeld => ?_)
  clear hK Kc
  refine norm_ (a' := ?_) ?_ ?_; rotate_left; (first | (show Act.put _ (some 57) _ = _; (simp only [Act.put, List.setIfInBounds_toArray, List.set_cons_zero, List.set_cons_succ]; rfl)) | rfl)
  refine pure_ (i := 19) (N := (some 11)) (v := ?_) (a' := ?_) #[true, true, true, true, true, true, true, true, true, true, true, true, true, true, true, true, true, true, true, true, false, false] rfl rfl (by kernel_rfl) (fun _ _ _ h => h) (Or.inl ⟨by rfl, ?_⟩) ?_ ?_; rotate_left; (intro w'; go_simp; with_reducible rfl); rotate_left; (simp only [Act.put, List.setIfInBounds_toArray, List.set_cons_zero, List.set_cons_succ]; rfl)
  refine pure_ (i := 20) (N := (some 12)) (v := ?_) (a' := ?_) #[true, true, true, true, true, true, true, true, true, true, true, true, true, true, true, true, true, true, true, true, true, false] rfl rfl (by kernel_rfl) (fun _ _ _ h => h) (Or.inl ⟨by rfl, ?_⟩) ?_ ?_; rotate_left; (intro w'; go_simp; with_reducible rfl); rotate_left; (simp only [Act.put, List.setIfInBounds_toArray, List.set_cons_zero, List.set_cons_succ]; rfl)
  refine pure_ (i := 21) (N := (some 13)) (v := ?_) (a' := ?_) #[true, true, true, true, true, true, true, true, true, true, true, true, true, true, true, true, true, true, true, true, true, true] rfl rfl (by kernel_rfl) (fun _ _ _ h => h) (Or.inl ⟨by rfl, ?_⟩) ?_ ?_; rotate_left; (intro w'; go_simp; with_reducible rfl); rotate_left; (simp only [Act.put, List.setIfInBounds_toArray, List.set_cons_zero, List.set_cons_succ]; rfl)
  try clear hHeld
  refine done_ (by kernel_rfl) ?_
  have hz7 := HB.size
  have hMM : MemAt w7 m wb (Mem.start ⟨T, S, K, G, Q⟩ ws) := ⟨Bm, Bw, ok⟩
  have apC := hC.apart hMM
  have apD := hD.apart hMM
  simp only [not_or] at apC apD
  clear Bm Bw
  go_wp2_with fail
  go_at_call 12
  refine (lawends_c a k1 k2 k3 m wb 100 _ (Mem.start ⟨T, S, K, G, Q⟩ ws) _ hA hMM (by show S ≤ 900; omega) (by omega)).mono ?_
  rintro e w_j1 ⟨j1, rfl, hl_j1, he_j1, hZ_j1, hM_j1, hK_j1⟩
  have hz_j1 := HB.size
  have N_BC : Blk w_j1 (W.heap.size) (24) #[.int .i64 T, .int .i64 S, .int .i64 K, .int .i64 G, .int .u64 Q] := Blk.keep (by exact got) hK_j1 (by first | assumption | omega | (simp; done) | (simp; omega)); have N_BZ : Blk w_j1 (W.heap.size + 1) (51) #[.int .u64 x, .int .u64 y, .int .u64 z] := Blk.keep (by exact got) hK_j1 (by first | assumption | omega | (simp; done) | (simp; omega)); have N_HB : Below W.heap.size W w_j1 := Below.trans (by exact gotB) (Keep.below hK_j1 (by first | omega | (simp; omega)) (by intro i hi; (try dsimp only); omega)); (try clear c_BC f_BC c_BZ f_BZ); (try clear BC BZ HB); have BC := N_BC; have BZ := N_BZ; have HB := N_HB; clear N_BC N_BZ N_HB
  replace hC := hC.keep hK_j1 (by intro hh; (try dsimp only at hh); omega) (by intro hh; (try dsimp only at hh); omega) (by intro hh; (try dsimp only at hh); omega) (by intro hh; (try dsimp only at hh); omega)
  replace hD := hD.keep hK_j1 (by intro hh; (try dsimp only at hh); omega) (by intro hh; (try dsimp only at hh); omega) (by intro hh; (try dsimp only at hh); omega) (by intro hh; (try dsimp only at hh); omega)
  clear hA
  go_wp2_with fail
  go_at_call 12
  refine (lawends_c b l1 l2 l3 m wb 100 _ (stepN j1 ((AgeS.new S (wrap64 (x % S)) (p)), (Mem.start ⟨T, S, K, G, Q⟩ ws))).2 _ hC hM_j1 (by show S ≤ 900; omega) (by omega)).mono ?_
  rintro e w_j2 ⟨j2, rfl, hl_j2, he_j2, hZ_j2, hM_j2, hK_j2⟩
  have hz_j2 := HB.size
  have N_BC : Blk w_j2 (W.heap.size) (24) #[.int .i64 T, .int .i64 S, .int .i64 K, .int .i64 G, .int .u64 Q] := Blk.keep (by exact got) hK_j2 (by first | assumption | omega | (simp; done) | (simp; omega)); have N_BZ : Blk w_j2 (W.heap.size + 1) (51) #[.int .u64 x, .int .u64 y, .int .u64 z] := Blk.keep (by exact got) hK_j2 (by first | assumption | omega | (simp; done) | (simp; omega)); have N_HB : Below W.heap.size W w_j2 := Below.trans (by exact gotB) (Keep.below hK_j2 (by first | omega | (simp; omega)) (by intro i hi; (try dsimp only); omega)); (try clear c_BC f_BC c_BZ f_BZ); (try clear BC BZ HB); have BC := N_BC; have BZ := N_BZ; have HB := N_HB; clear N_BC N_BZ N_HB
  replace hD := hD.keep hK_j2 (by intro hh; (try dsimp only at hh); omega) (by intro hh; (try dsimp only at hh); omega) (by intro hh; (try dsimp only at hh); omega) (by intro hh; (try dsimp only at hh); omega)
  clear hC
  go_wp2_with fail
  go_at_call 12
  refine (lawends_c d r1 r2 r3 m wb 100 _ (stepN j2 ((AgeS.new S (wrap64 (x % S)) (q)), (stepN j1 ((AgeS.new S (wrap64 (x % S)) (p)), (Mem.start ⟨T, S, K, G, Q⟩ ws))).2)).2 _ hD hM_j2 (by show S ≤ 900; omega) (by omega)).mono ?_
  rintro e w_j3 ⟨j3, rfl, hl_j3, he_j3, hZ_j3, hM_j3, hK_j3⟩
  have hz_j3 := HB.size
  have N_BC : Blk w_j3 (W.heap.size) (24) #[.int .i64 T, .int .i64 S, .int .i64 K, .int .i64 G, .int .u64 Q] := Blk.keep (by exact got) hK_j3 (by first | assumption | omega | (simp; done) | (simp; omega)); have N_BZ : Blk w_j3 (W.heap.size + 1) (51) #[.int .u64 x, .int .u64 y, .int .u64 z] := Blk.keep (by exact got) hK_j3 (by first | assumption | omega | (simp; done) | (simp; omega)); have N_HB : Below W.heap.size W w_j3 := Below.trans (by exact gotB) (Keep.below hK_j3 (by first | omega | (simp; omega)) (by intro i hi; (try dsimp only); omega)); (try clear c_BC f_BC c_BZ f_BZ); (try clear BC BZ HB); have BC := N_BC; have BZ := N_BZ; have HB := N_HB; clear N_BC N_BZ N_HB
  clear hD
  have c_BC := BC.cell; have f_BC := BC.free; have c_BZ := BZ.cell; have f_BZ := BZ.free
  have m1 := stepN_mem j1 (AgeS.new S (wrap64 (x % S)) (p)) (Mem.start ⟨T, S, K, G, Q⟩ ws)
  have m2 := stepN_mem j2 (AgeS.new S (wrap64 (x % S)) (q)) (stepN j1 ((AgeS.new S (wrap64 (x % S)) (p)), (Mem.start ⟨T, S, K, G, Q⟩ ws))).2
  have t1 := (ended (Mem.start ⟨T, S, K, G, Q⟩ ws) S (wrap64 (x % S)) (p) j1 ⟨by omega, by omega⟩ he_j1).2
  have t2 := ((ended (stepN j1 ((AgeS.new S (wrap64 (x % S)) (p)), (Mem.start ⟨T, S, K, G, Q⟩ ws))).2 S (wrap64 (x % S)) (q) j2 ⟨by omega, by omega⟩ he_j2).2).trans (any_congr m1.2 m1.1 _ _ _ _)
  have t3 := ((ended (stepN j2 ((AgeS.new S (wrap64 (x % S)) (q)), (stepN j1 ((AgeS.new S (wrap64 (x % S)) (p)), (Mem.start ⟨T, S, K, G, Q⟩ ws))).2)).2 S (wrap64 (x % S)) 0 j3 ⟨by omega, by omega⟩ he_j3).2).trans ((any_congr m2.2 m2.1 _ _ _ _).trans (any_congr m1.2 m1.1 _ _ _ _))
  clear m1 m2
  go_wp2
  go_loopw [20, 88] (fun acc i wr => ∃ k : Nat, (k : Int) ≤ S ∧ acc = .bool (anyN (Mem.start ⟨T, S, K, G, Q⟩ ws) (wrap64 (x % S)) 0 k) ∧ i = .int .i64 k ∧ Blk wr W.heap.size 24 #[.int .i64 T, .int .i64 S, .int .i64 K, .int .i64 G, .int .u64 Q] ∧ Below W.heap.size W wr)
               (fun _ i _ => S.toNat - (intOf i).toNat)
  case atStart => exact ⟨0, by omega, rfl, rfl, BC, HB⟩
  case round =>
    obtain ⟨k, hk, rfl, rfl, BC, HB⟩ := hrel
    have c_BC := BC.cell; have f_BC := BC.free
    have HW4 := Lib.hid (Mem.at_range ok 4 (k : Int))
    have hg := goes_zero (Mem.start ⟨T, S, K, G, Q⟩ ws) ok (k : Int)
    rcases Int.lt_or_le (k : Int) S with hlt | hge
    · cases h1 : anyN (Mem.start ⟨T, S, K, G, Q⟩ ws) (wrap64 (x % S)) 0 k <;> cases h2 : ((k : Int) != (wrap64 (x % S))) <;> cases c1 : (partI ((Mem.start ⟨T, S, K, G, Q⟩ ws).at 4 (k : Int)) 27 3 == 1) <;> (
        rw [c1] at hg
        go_wp2_with (first
          | (go_at_call 14; refine (at_c ⟨T, S, K, G, Q⟩ ws bb off n cap 4 (k : Int) _ hr hnn hn (hs.later (by exact gotB)) (cell_slot hr _ _ (by omega) (by omega) (by omega) hlt)).mono ?_; rintro e w15 ⟨rfl, hb15⟩; have N_BC : Blk w15 (W.heap.size) (24) #[.int .i64 T, .int .i64 S, .int .i64 K, .int .i64 G, .int .u64 Q] := Blk.later hb15 (by exact got); have N_HB : Below W.heap.size W w15 := below_step (by exact gotB) hb15; (try clear c_BC f_BC); (try clear BC HB); have BC := N_BC; have HB := N_HB; clear N_BC N_HB)
          | (go_at_call 13; refine (state_c _ HW4.out _).mono ?_; rintro e w16 ⟨rfl, hb16⟩; have N_BC : Blk w16 (W.heap.size) (24) #[.int .i64 T, .int .i64 S, .int .i64 K, .int .i64 G, .int .u64 Q] := Blk.later hb16 (by exact got); have N_HB : Below W.heap.size W w16 := below_step (by exact gotB) hb16; (try clear c_BC f_BC); (try clear BC HB); have BC := N_BC; have HB := N_HB; clear N_BC N_HB; have c_BC := BC.cell; have f_BC := BC.free))
        go_roundw
        case rel => exact ⟨k + 1, by omega, by (try simp only [anyN, h1, h2, hg]; first | rfl | simp), by go_num, BC, HB⟩
        case measure => simp [intOf]; omega)
    · have he : (k : Int) = S := by omega
      have n1 : (stepN j1 ((AgeS.new S (wrap64 (x % S)) (p)), (Mem.start ⟨T, S, K, G, Q⟩ ws))).1.later = anyN (Mem.start ⟨T, S, K, G, Q⟩ ws) (wrap64 (x % S)) (p) k := by rw [Bool.eq_iff_iff, t1, anyN_is, he]
      have n2 : (stepN j2 ((AgeS.new S (wrap64 (x % S)) (q)), (stepN j1 ((AgeS.new S (wrap64 (x % S)) (p)), (Mem.start ⟨T, S, K, G, Q⟩ ws))).2)).1.later = anyN (Mem.start ⟨T, S, K, G, Q⟩ ws) (wrap64 (x % S)) (q) k := by rw [Bool.eq_iff_iff, t2, anyN_is, he]
      have n3 : (stepN j3 ((AgeS.new S (wrap64 (x % S)) 0), (stepN j2 ((AgeS.new S (wrap64 (x % S)) (q)), (stepN j1 ((AgeS.new S (wrap64 (x % S)) (p)), (Mem.start ⟨T, S, K, G, Q⟩ ws))).2)).2)).1.later = anyN (Mem.start ⟨T, S, K, G, Q⟩ ws) (wrap64 (x % S)) 0 k := by rw [Bool.eq_iff_iff, t3, anyN_is, he]
      have hmono : anyN (Mem.start ⟨T, S, K, G, Q⟩ ws) (wrap64 (x % S)) (p) k = true → anyN (Mem.start ⟨T, S, K, G, Q⟩ ws) (wrap64 (x % S)) (q) k = true := anyN_mono (Mem.start ⟨T, S, K, G, Q⟩ ws) (wrap64 (x % S)) _ _ (by rw [← hp, ← hq]; split <;> split <;> omega) k
      have hE : ((stepN j3 ((AgeS.new S (wrap64 (x % S)) 0), (stepN j2 ((AgeS.new S (wrap64 (x % S)) (q)), (stepN j1 ((AgeS.new S (wrap64 (x % S)) (p)), (Mem.start ⟨T, S, K, G, Q⟩ ws))).2)).2)).1.later == anyN (Mem.start ⟨T, S, K, G, Q⟩ ws) (wrap64 (x % S)) 0 k) = true := by rw [n3]; simp
      have hxy : (stepN j1 ((AgeS.new S (wrap64 (x % S)) (p)), (Mem.start ⟨T, S, K, G, Q⟩ ws))).1.later = true → (stepN j2 ((AgeS.new S (wrap64 (x % S)) (q)), (stepN j1 ((AgeS.new S (wrap64 (x % S)) (p)), (Mem.start ⟨T, S, K, G, Q⟩ ws))).2)).1.later = true := by rw [n1, n2]; exact hmono
      cases hx : (stepN j1 ((AgeS.new S (wrap64 (x % S)) (p)), (Mem.start ⟨T, S, K, G, Q⟩ ws))).1.later <;> cases hy : (stepN j2 ((AgeS.new S (wrap64 (x % S)) (q)), (stepN j1 ((AgeS.new S (wrap64 (x % S)) (p)), (Mem.start ⟨T, S, K, G, Q⟩ ws))).2)).1.later
      · go_wp2_with (go_at_call 11; refine (Ev.alive_calls _).mono ?_; rintro e w3 ⟨rfl, hb3⟩; replace HB := below_step HB hb3)
        go_ret
        exact ⟨rfl, HB⟩
      · go_wp2_with (go_at_call 11; refine (Ev.alive_calls _).mono ?_; rintro e w3 ⟨rfl, hb3⟩; replace HB := below_step HB hb3)
        go_ret
        exact ⟨rfl, HB⟩
      · exact absurd (hxy hx) (by rw [hy]; simp)
      · go_wp2_with (go_at_call 11; refine (Ev.alive_calls _).mono ?_; rintro e w3 ⟨rfl, hb3⟩; replace HB := below_step HB hb3)
        go_ret
        exact ⟨rfl, HB⟩
theorem walkAgeNumbers (W : World) (T S K G Q : Int) (wT : (Lit.int .i64 T).wf = true) (wS : (Lit.int .i64 S).wf = true) (wK : (Lit.int .i64 K).wf = true) (wG : (Lit.int .i64 G).wf = true) (wQ : (Lit.int .u64 Q).wf = true)
    (a : Option Addr) (n cap : Nat) (zs : List Int) (hz : IsRow .u64 W a n cap zs) (x y z : Int) (wx : (Lit.int .u64 x).wf = true) (wy : (Lit.int .u64 y).wf = true) (wz : (Lit.int .u64 z).wf = true) :
    Calls Try.prog 5 #[.agg #[.int .i64 T, .int .i64 S, .int .i64 K, .int .i64 G, .int .u64 Q], .slice a n cap, .agg #[.int .u64 x, .int .u64 y, .int .u64 z]] W fun e W' => e = .returned (.bool true) ∧ Below W.heap.size W W' := by
  by_cases h : (Cfg.Rt ⟨T, S, K, G, Q⟩ ∧ (n : Int) = Cfg.len ⟨T, S, K, G, Q⟩)
  · obtain ⟨hr, hn⟩ := h
    obtain ⟨bb, off, ws, rfl, hs, hnn, hw, hc⟩ := hz.given hr hn
    simp [Lit.wf, IntKind.min, IntKind.max, IntKind.signed, IntKind.bits] at wx
    exact numbers_some W T S K G Q bb off n cap ws x y z hr hnn hn hs hw (by omega)
  · exact numbers_none W T S K G Q a n cap x y z h
end Go.Proofs.Ytbgdhahdihbpaaa.Pure
