/- The law that who begins later is no reason, walked. Conditions stand in the statement. -/
import Derived.Test.YtbgdhahdihbpaaaPackG
import Derived.Test.YtbgdhahdihbpaaaAliveQ
import Derived.Test.YtbgdhahdihbpaaaNewAnyQ
namespace Go.Proofs.Ytbgdhahdihbpaaa.Ev
open Go.RowKit
theorem of_ev (k s : Int) : outV (ev noSums 20 22 [.int .i64 k, .int .i64 s] ⟨.nil, 0⟩) = some (.agg #[.int .i64 k, .int .i64 s]) := by kernel_rfl
theorem of_c (k s : Int) (W : World) : Calls Try.prog 22 #[.int .i64 k, .int .i64 s] W fun e W' => e = .returned (.agg #[.int .i64 k, .int .i64 s]) ∧ Below W.heap.size W W' :=
  calls_plain noSums_ok 20 _ [.int .i64 k, .int .i64 s] (.agg #[.int .i64 k, .int .i64 s]) rfl rfl (of_ev k s) W
set_option maxRecDepth 100000 in
theorem active_ev : outV (ev noSums 1000 23 [.int .i64 2, .int .i64 0] ⟨.nil, 0⟩) = some (.int .u64 268435456) := by kernel_rfl
theorem active_c (W : World) : Calls Try.prog 23 #[.int .i64 2, .int .i64 0] W fun e W' => e = .returned (.int .u64 268435456) ∧ Below W.heap.size W W' :=
  calls_plain noSums_ok 1000 _ [.int .i64 2, .int .i64 0] (.int .u64 268435456) rfl rfl active_ev W
end Go.Proofs.Ytbgdhahdihbpaaa.Ev
namespace Go.Proofs.Ytbgdhahdihbpaaa.Age
open Go.RowKit Go.IntWalk Go.Proofs.Ytbgdhahdihbpaaa.Own Go.Proofs.Ytbgdhahdihbpaaa.Model Go.Proofs.Ytbgdhahdihbpaaa.Store Go.Proofs.Ytbgdhahdihbpaaa.Status
theorem store_at_same {M : Mem} (h : M.Ok) (kind of v : Int) (hc : 0 ≤ M.c.cell kind of) : (M.store kind of v).at kind of = v := by
  have hr := Cfg.cell_range h.rt kind of
  have hl := h.len
  unfold Mem.store Mem.acc
  rw [if_pos hc]
  unfold Mem.at
  dsimp only
  rw [if_pos hc, List.getD_eq_getElem?_getD, List.getElem?_set_self (by omega)]
  rfl
theorem store_at_other {M : Mem} (kind of v k o : Int) (hne : 0 ≤ M.c.cell k o → M.c.cell kind of ≠ M.c.cell k o) : (M.store kind of v).at k o = M.at k o := by
  unfold Mem.store Mem.acc
  split
  · rename_i h
    unfold Mem.at
    dsimp only
    split
    · rename_i h2
      have := hne h2
      rw [List.getD_eq_getElem?_getD, List.getElem?_set_ne (by omega), ← List.getD_eq_getElem?_getD]
    · rfl
  · rfl
theorem start_zero (c : Cfg) (n : Nat) (k o : Int) : (Mem.start c (List.replicate n 0)).at k o = 0 := by
  unfold Mem.at Mem.start
  dsimp only
  split
  · rw [List.getD_eq_getElem?_getD]
    rcases Nat.lt_or_ge (c.cell k o).toNat n with h | h
    · rw [List.getElem?_eq_getElem (by simpa using h)]; simp
    · rw [List.getElem?_eq_none (by simpa using h)]; rfl
  · rfl
theorem cell_at {c : Cfg} (kind of : Int) (h4 : 4 ≤ kind) (h7 : kind ≤ 7) (h0 : 0 ≤ of) (h1 : of < c.S) : c.cell kind of = 2 + c.T + (kind - 4) + 4 * of := by
  unfold Cfg.cell
  rw [if_neg (by omega), if_neg (by omega), if_neg (by omega), if_pos ⟨h4, h7, h0, h1⟩]
theorem new_c2 (t s k g q slot number : Int) (W : World) (B : Nat) (hs : s ≤ 900) (h0 : 0 ≤ s) (hB : B ≤ W.heap.size) :
    Calls Try.prog 10 #[.agg #[.int .i64 t, .int .i64 s, .int .i64 k, .int .i64 g, .int .u64 q], .int .i64 slot, .int .u64 number] W
      fun e W' => ∃ a k1 k2 k3, e = .returned (.pointer (some ⟨a, 0, none⟩)) ∧ AgeAt W' a k1 k2 k3 (AgeS.new s slot number) ∧ Below W.heap.size W W' ∧ W.heap.size ≤ a ∧ W.heap.size ≤ k1 ∧ W.heap.size ≤ k2 ∧ W.heap.size ≤ k3 ∧ B ≤ a ∧ B ≤ k1 := by
  refine (new_c t s k g q slot number W hs h0).mono ?_
  rintro e W' ⟨a, k1, k2, k3, rfl, hA, hb, g0, g1, g2, g3⟩
  exact ⟨a, k1, k2, k3, rfl, hA, hb, g0, g1, g2, g3, by omega, by omega⟩
/-- One that goes on since the number is no reason. -/
theorem stays {M : Mem} (h : M.Ok) (hz : ∀ k o, M.at k o = 0) (other number slot : Int) (ho : 0 ≤ other) (ho2 : other < M.c.S) (hn : Word number) :
    ¬ anyFrom ((M.store 5 other number).store 4 other 268435456) M.c.S slot number 0 := by
  rintro ⟨i, h0, h1, h2, h3⟩
  have hc1 : (M.store 5 other number).c = M.c := Mem.acc_c _ _ _ _ _
  have hok := h.store 5 (of := other) hn
  have c4 := cell_at (c := M.c) 4 other (by omega) (by omega) ho ho2
  have c5 := cell_at (c := M.c) 5 other (by omega) (by omega) ho ho2
  have i4 := cell_at (c := M.c) 4 i (by omega) (by omega) h0 h1
  have i5 := cell_at (c := M.c) 5 i (by omega) (by omega) h0 h1
  have hT : 1 ≤ M.c.T := h.rt.1
  have a5 : ((M.store 5 other number).store 4 other 268435456).at 5 i = (M.store 5 other number).at 5 i := store_at_other _ _ _ _ _ (fun _ => by rw [hc1]; omega)
  by_cases e : i = other
  · subst e
    have a4 : ((M.store 5 i number).store 4 i 268435456).at 4 i = 268435456 := store_at_same hok _ _ _ (by rw [hc1]; omega)
    have b5 : (M.store 5 i number).at 5 i = number := store_at_same h _ _ _ (by omega)
    unfold goesAt at h3
    rw [a4, a5, b5, show partI 268435456 27 3 = 2 by decide] at h3
    simp at h3
  · have a4 : ((M.store 5 other number).store 4 other 268435456).at 4 i = 0 := by
      rw [store_at_other _ _ _ _ _ (fun _ => by rw [hc1]; omega), store_at_other _ _ _ _ _ (fun _ => by omega)]; exact hz _ _
    unfold goesAt at h3
    rw [a4, show partI 0 27 3 = 0 by decide] at h3
    simp at h3
theorem nobody {M : Mem} (hz : ∀ k o, M.at k o = 0) (S slot number : Int) : ¬ anyFrom M S slot number 0 := by
  rintro ⟨i, h0, h1, h2, h3⟩
  unfold goesAt at h3
  rw [hz, show partI 0 27 3 = 0 by decide] at h3
  simp at h3
end Go.Proofs.Ytbgdhahdihbpaaa.Age
namespace Go.Proofs.Ytbgdhahdihbpaaa.Pure
open Go.RowKit Go.IntWalk Go.Proofs.Ytbgdhahdihbpaaa.Own Go.Proofs.Ytbgdhahdihbpaaa.Model Go.Proofs.Ytbgdhahdihbpaaa.Store Go.Proofs.Ytbgdhahdihbpaaa.Status Go.Proofs.Ytbgdhahdihbpaaa.Age Go.Proofs.Ytbgdhahdihbpaaa.PAgeOldest
open Go.Proofs.YtbgdhahdihbpaaaW.PrintLast
set_option linter.unusedSimpArgs false
set_option linter.unusedVariables false

theorem stays_none (W : World) (T S K G Q number slot other : Int) (h : ¬ Cfg.Rt ⟨T, S, K, G, Q⟩) :
    Calls Try.prog 7 #[.agg #[.int .i64 T, .int .i64 S, .int .i64 K, .int .i64 G, .int .u64 Q], .int .u64 number, .agg #[.int .i64 slot, .int .i64 other]] W fun e W' => e = .returned (.bool true) ∧ Below W.heap.size W W' := by
  have HA := Lib.hid h
  have HB := Below.refl W.heap.size W
  clear h
  go_enter Try.func7, Try.ntmps7
  go_wp2_with (go_at_call 20; refine (storenew_none ⟨T, S, K, G, Q⟩ _ HA.out).mono ?_; rintro e w1 ⟨rfl, hb1⟩; have N_BC : Blk w1 (W.heap.size) (24) #[.int .i64 T, .int .i64 S, .int .i64 K, .int .i64 G, .int .u64 Q] := Blk.later hb1 (by exact got); have N_BP : Blk w1 (W.heap.size + 1) (54) #[.int .i64 slot, .int .i64 other] := Blk.later hb1 (by exact got); have N_HB : Below W.heap.size W w1 := below_step (by exact gotB) hb1; (try clear c_BC f_BC c_BP f_BP); (try clear BC BP HB); have BC := N_BC; have BP := N_BP; have HB := N_HB; clear N_BC N_BP N_HB; have c_BC := BC.cell; have f_BC := BC.free; have c_BP := BP.cell; have f_BP := BP.free)
  refine begin_ (n := 6) (S := fun w' => Blk w' (W.heap.size) (24) #[.int .i64 T, .int .i64 S, .int .i64 K, .int .i64 G, .int .u64 Q] ∧ Blk w' (W.heap.size + 1) (54) #[.int .i64 slot, .int .i64 other] ∧ Below W.heap.size W w') (ds := []) #[false, false, false, false, false, false] (by kernel_rfl) rfl rfl ⟨(by ((exact got); done)), (by ((exact got); done)), (by ((exact gotB); done))⟩ (fun wd hHeld => ?_)
  (try clear BC)
  (try clear BP)
  (try clear HB)
  have ⟨BC, BP, HB⟩ := hHeld
  refine pure_ (i := 0) (N := (some 22)) (v := ?_) (a' := ?_) #[true, false, false, false, false, false] rfl rfl (by kernel_rfl) (fun _ _ _ h => h) (Or.inl ⟨by rfl, ?_⟩) ?_ ?_; rotate_left; (intro w'; go_simp; with_reducible rfl); rotate_left; (simp only [Act.put, List.setIfInBounds_toArray, List.set_cons_zero, List.set_cons_succ]; rfl)
  refine pure_ (i := 2) (N := (some 24)) (v := ?_) (a' := ?_) #[true, false, true, false, false, false] rfl rfl (by kernel_rfl) (fun _ _ _ h => h) (Or.inl ⟨by rfl, ?_⟩) ?_ ?_; rotate_left; (intro w'; go_simp; with_reducible rfl); rotate_left; (simp only [Act.put, List.setIfInBounds_toArray, List.set_cons_zero, List.set_cons_succ]; rfl)
  refine take_ (i := 1) (N := (some 23)) (v := ?_) (a' := ?_) #[true, true, true, false, false, false] rfl rfl (by kernel_rfl) (fun _ _ _ h => h) (Or.inl ⟨by rfl, ?_⟩) hHeld ?_ ?_; rotate_left; (rintro w' ⟨s0, s1, s2⟩; have c_0 := s0.cell; have f_0 := s0.free; have c_1 := s1.cell; have f_1 := s1.free; go_simp; with_reducible rfl); rotate_left; (simp only [Act.put, List.setIfInBounds_toArray, List.set_cons_zero, List.set_cons_succ]; rfl)
  refine pure_ (i := 4) (N := (some 9)) (v := ?_) (a' := ?_) #[true, true, true, false, true, false] rfl rfl (by kernel_rfl) (fun _ _ _ h => h) (Or.inl ⟨by rfl, ?_⟩) ?_ ?_; rotate_left; (intro w'; go_simp; with_reducible rfl); rotate_left; (simp only [Act.put, List.setIfInBounds_toArray, List.set_cons_zero, List.set_cons_succ]; rfl)
  refine take_ (i := 3) (N := (some 25)) (v := ?_) (a' := ?_) #[true, true, true, true, true, false] rfl rfl (by kernel_rfl) (fun _ _ _ h => h) (Or.inl ⟨by rfl, ?_⟩) hHeld ?_ ?_; rotate_left; (rintro w' ⟨s0, s1, s2⟩; have c_0 := s0.cell; have f_0 := s0.free; have c_1 := s1.cell; have f_1 := s1.free; go_simp; with_reducible rfl); rotate_left; (simp only [Act.put, List.setIfInBounds_toArray, List.set_cons_zero, List.set_cons_succ]; rfl)
  refine pure_ (i := 5) (N := (some 10)) (v := ?_) (a' := ?_) #[true, true, true, true, true, true] rfl rfl (by kernel_rfl) (fun _ _ _ h => h) (Or.inl ⟨by rfl, ?_⟩) ?_ ?_; rotate_left; (intro w'; go_simp; with_reducible rfl); rotate_left; (simp only [Act.put, List.setIfInBounds_toArray, List.set_cons_zero, List.set_cons_succ]; rfl)
  try clear hHeld
  refine done_ (by kernel_rfl) ?_
  go_wp2
  refine begin_ (n := 10) (S := fun w' => Blk w' (W.heap.size) (24) #[.int .i64 T, .int .i64 S, .int .i64 K, .int .i64 G, .int .u64 Q] ∧ Blk w' (W.heap.size + 1) (54) #[.int .i64 slot, .int .i64 other] ∧ Below W.heap.size W w') (ds := []) #[false, false, false, false, false, false, false, false, false, false] (by kernel_rfl) rfl rfl ⟨(by ((exact got); done)), (by ((exact got); done)), (by ((exact gotB); done))⟩ (fun wd hHeld => ?_)
  (try clear BC)
  (try clear BP)
  (try clear HB)
  have ⟨BC, BP, HB⟩ := hHeld
  refine pure_ (i := 1) (N := (some 27)) (v := ?_) (a' := ?_) #[false, true, false, false, false, false, false, false, false, false] rfl rfl (by kernel_rfl) (fun _ _ _ h => h) (Or.inl ⟨by rfl, ?_⟩) ?_ ?_; rotate_left; (intro w'; go_simp; with_reducible rfl); rotate_left; (simp only [Act.put, List.setIfInBounds_toArray, List.set_cons_zero, List.set_cons_succ]; rfl)
  refine pure_ (i := 2) (N := (some 28)) (v := ?_) (a' := ?_) #[false, true, true, false, false, false, false, false, false, false] rfl rfl (by kernel_rfl) (fun _ _ _ h => h) (Or.inl ⟨by rfl, ?_⟩) ?_ ?_; rotate_left; (intro w'; go_simp; with_reducible rfl); rotate_left; (simp only [Act.put, List.setIfInBounds_toArray, List.set_cons_zero, List.set_cons_succ]; rfl)
  refine pure_ (i := 5) (N := (some 31)) (v := ?_) (a' := ?_) #[false, true, true, false, false, true, false, false, false, false] rfl rfl (by kernel_rfl) (fun _ _ _ h => h) (Or.inl ⟨by rfl, ?_⟩) ?_ ?_; rotate_left; (intro w'; go_simp; with_reducible rfl); rotate_left; (simp only [Act.put, List.setIfInBounds_toArray, List.set_cons_zero, List.set_cons_succ]; rfl)
  refine pure_ (i := 6) (N := (some 32)) (v := ?_) (a' := ?_) #[false, true, true, false, false, true, true, false, false, false] rfl rfl (by kernel_rfl) (fun _ _ _ h => h) (Or.inl ⟨by rfl, ?_⟩) ?_ ?_; rotate_left; (intro w'; go_simp; with_reducible rfl); rotate_left; (simp only [Act.put, List.setIfInBounds_toArray, List.set_cons_zero, List.set_cons_succ]; rfl)
  refine take_ (i := 0) (N := (some 26)) (v := ?_) (a' := ?_) #[true, true, true, false, false, true, true, false, false, false] rfl rfl (by kernel_rfl) (fun _ _ _ h => h) (Or.inl ⟨by rfl, ?_⟩) hHeld ?_ ?_; rotate_left; (rintro w' ⟨s0, s1, s2⟩; have c_0 := s0.cell; have f_0 := s0.free; have c_1 := s1.cell; have f_1 := s1.free; go_simp; with_reducible rfl); rotate_left; (simp only [Act.put, List.setIfInBounds_toArray, List.set_cons_zero, List.set_cons_succ]; rfl)
  refine take_ (i := 4) (N := (some 30)) (v := ?_) (a' := ?_) #[true, true, true, false, true, true, true, false, false, false] rfl rfl (by kernel_rfl) (fun _ _ _ h => h) (Or.inl ⟨by rfl, ?_⟩) hHeld ?_ ?_; rotate_left; (rintro w' ⟨s0, s1, s2⟩; have c_0 := s0.cell; have f_0 := s0.free; have c_1 := s1.cell; have f_1 := s1.free; go_simp; with_reducible rfl); rotate_left; (simp only [Act.put, List.setIfInBounds_toArray, List.set_cons_zero, List.set_cons_succ]; rfl)
  refine one_ (i := 3) (N := (some 29)) #[true, true, true, true, true, true, true, false, false, false] rfl rfl (by kernel_rfl) (by decide) (fun Kc hK => ?_)
  try clear hHeld
  refine goes_ Try.func10 (by kernel_rfl) rfl #[.agg #[.int .i64 T, .int .i64 S, .int .i64 K, .int .i64 G, .int .u64 Q], .int .i64 slot, .int .u64 number] (by rfl) rfl rfl (by (try simp only [List.map_toArray, List.map_cons, List.map_nil]); first | done | rfl) ?_
  refine (Ev.new_any T S K G Q slot number _).mono ?_
  rintro e w5 ⟨a, rfl, hbl⟩
  refine ⟨_, rfl, ?_⟩
  replace BC := Blk.later hbl BC
  replace BP := Blk.later hbl BP
  replace HB := below_step HB hbl
  refine hK.out _ _ ⟨BC, BP, HB⟩ (fun hHeld => ?_)
  clear hK Kc
  refine norm_ (a' := ?_) ?_ ?_; rotate_left; (first | (show Act.put _ (some 29) _ = _; (simp only [Act.put, List.setIfInBounds_toArray, List.set_cons_zero, List.set_cons_succ]; rfl)) | rfl)
  refine one_ (i := 7) (N := (some 33)) #[true, true, true, true, true, true, true, true, false, false] rfl rfl (by kernel_rfl) (by decide) (fun Kc hK => ?_)
  try clear hHeld
  refine goes_ Try.func10 (by kernel_rfl) rfl #[.agg #[.int .i64 T, .int .i64 S, .int .i64 K, .int .i64 G, .int .u64 Q], .int .i64 slot, .int .u64 number] (by rfl) rfl rfl (by (try simp only [List.map_toArray, List.map_cons, List.map_nil]); first | done | rfl) ?_
  refine (Ev.new_any T S K G Q slot number _).mono ?_
  rintro e w6 ⟨a2, rfl, hbl⟩
  refine ⟨_, rfl, ?_⟩
  replace BC := Blk.later hbl BC
  replace BP := Blk.later hbl BP
  replace HB := below_step HB hbl
  refine hK.out _ _ ⟨BC, BP, HB⟩ (fun hHeld => ?_)
  clear hK Kc
  refine norm_ (a' := ?_) ?_ ?_; rotate_left; (first | (show Act.put _ (some 33) _ = _; (simp only [Act.put, List.setIfInBounds_toArray, List.set_cons_zero, List.set_cons_succ]; rfl)) | rfl)
  refine pure_ (i := 8) (N := (some 11)) (v := ?_) (a' := ?_) #[true, true, true, true, true, true, true, true, true, false] rfl rfl (by kernel_rfl) (fun _ _ _ h => h) (Or.inl ⟨by rfl, ?_⟩) ?_ ?_; rotate_left; (intro w'; go_simp; with_reducible rfl); rotate_left; (simp only [Act.put, List.setIfInBounds_toArray, List.set_cons_zero, List.set_cons_succ]; rfl)
  refine pure_ (i := 9) (N := (some 12)) (v := ?_) (a' := ?_) #[true, true, true, true, true, true, true, true, true, true] rfl rfl (by kernel_rfl) (fun _ _ _ h => h) (Or.inl ⟨by rfl, ?_⟩) ?_ ?_; rotate_left; (intro w'; go_simp; with_reducible rfl); rotate_left; (simp only [Act.put, List.setIfInBounds_toArray, List.set_cons_zero, List.set_cons_succ]; rfl)
  try clear hHeld
  refine done_ (by kernel_rfl) ?_
  have c_BC := BC.cell; have f_BC := BC.free; have c_BP := BP.cell; have f_BP := BP.free
  go_wp2_with (go_at_call 11; refine (Ev.alive_calls _).mono ?_; rintro e w3 ⟨rfl, hb3⟩; have N_BC : Blk w3 (W.heap.size) (24) #[.int .i64 T, .int .i64 S, .int .i64 K, .int .i64 G, .int .u64 Q] := Blk.later hb3 (by exact got); have N_BP : Blk w3 (W.heap.size + 1) (54) #[.int .i64 slot, .int .i64 other] := Blk.later hb3 (by exact got); have N_HB : Below W.heap.size W w3 := below_step (by exact gotB) hb3; (try clear c_BC f_BC c_BP f_BP); (try clear BC BP HB); have BC := N_BC; have BP := N_BP; have HB := N_HB; clear N_BC N_BP N_HB)
  go_ret
  exact ⟨rfl, HB⟩
theorem stays_out (W : World) (T S K G Q number slot other : Int) (hr : Cfg.Rt ⟨T, S, K, G, Q⟩) (ho : other < 0 ∨ S ≤ other) :
    Calls Try.prog 7 #[.agg #[.int .i64 T, .int .i64 S, .int .i64 K, .int .i64 G, .int .u64 Q], .int .u64 number, .agg #[.int .i64 slot, .int .i64 other]] W fun e W' => e = .returned (.bool true) ∧ Below W.heap.size W W' := by
  have HB := Below.refl W.heap.size W
  rcases Int.lt_or_le other 0 with h0 | h0
  all_goals
    have hlt : other < 0 ∨ S ≤ other := ho
    go_enter Try.func7, Try.ntmps7
    go_wp2_with (go_at_call 20; refine (storenew_c ⟨T, S, K, G, Q⟩ _ hr).mono ?_; rintro e w1 ⟨m, rfl, wb, hM, hb1, gm, gwb⟩; have N_BC : Blk w1 (W.heap.size) (24) #[.int .i64 T, .int .i64 S, .int .i64 K, .int .i64 G, .int .u64 Q] := Blk.later hb1 (by exact got); have N_BP : Blk w1 (W.heap.size + 1) (54) #[.int .i64 slot, .int .i64 other] := Blk.later hb1 (by exact got); have N_HB : Below W.heap.size W w1 := below_step (by exact gotB) hb1; (try clear c_BC f_BC c_BP f_BP); (try clear BC BP HB); have BC := N_BC; have BP := N_BP; have HB := N_HB; clear N_BC N_BP N_HB; have c_BC := BC.cell; have f_BC := BC.free; have c_BP := BP.cell; have f_BP := BP.free)
    refine begin_ (n := 6) (S := fun w' => Blk w' (W.heap.size) (24) #[.int .i64 T, .int .i64 S, .int .i64 K, .int .i64 G, .int .u64 Q] ∧ Blk w' (W.heap.size + 1) (54) #[.int .i64 slot, .int .i64 other] ∧ Below W.heap.size W w') (ds := []) #[false, false, false, false, false, false] (by kernel_rfl) rfl rfl ⟨(by ((exact got); done)), (by ((exact got); done)), (by ((exact gotB); done))⟩ (fun wd hHeld => ?_)
    (try clear BC)
    (try clear BP)
    (try clear HB)
    have ⟨BC, BP, HB⟩ := hHeld
    refine pure_ (i := 0) (N := (some 22)) (v := ?_) (a' := ?_) #[true, false, false, false, false, false] rfl rfl (by kernel_rfl) (fun _ _ _ h => h) (Or.inl ⟨by rfl, ?_⟩) ?_ ?_; rotate_left; (intro w'; go_simp; with_reducible rfl); rotate_left; (simp only [Act.put, List.setIfInBounds_toArray, List.set_cons_zero, List.set_cons_succ]; rfl)
    refine pure_ (i := 2) (N := (some 24)) (v := ?_) (a' := ?_) #[true, false, true, false, false, false] rfl rfl (by kernel_rfl) (fun _ _ _ h => h) (Or.inl ⟨by rfl, ?_⟩) ?_ ?_; rotate_left; (intro w'; go_simp; with_reducible rfl); rotate_left; (simp only [Act.put, List.setIfInBounds_toArray, List.set_cons_zero, List.set_cons_succ]; rfl)
    refine take_ (i := 1) (N := (some 23)) (v := ?_) (a' := ?_) #[true, true, true, false, false, false] rfl rfl (by kernel_rfl) (fun _ _ _ h => h) (Or.inl ⟨by rfl, ?_⟩) hHeld ?_ ?_; rotate_left; (rintro w' ⟨s0, s1, s2⟩; have c_0 := s0.cell; have f_0 := s0.free; have c_1 := s1.cell; have f_1 := s1.free; go_simp; with_reducible rfl); rotate_left; (simp only [Act.put, List.setIfInBounds_toArray, List.set_cons_zero, List.set_cons_succ]; rfl)
    refine pure_ (i := 4) (N := (some 9)) (v := ?_) (a' := ?_) #[true, true, true, false, true, false] rfl rfl (by kernel_rfl) (fun _ _ _ h => h) (Or.inl ⟨by rfl, ?_⟩) ?_ ?_; rotate_left; (intro w'; go_simp; with_reducible rfl); rotate_left; (simp only [Act.put, List.setIfInBounds_toArray, List.set_cons_zero, List.set_cons_succ]; rfl)
    refine take_ (i := 3) (N := (some 25)) (v := ?_) (a' := ?_) #[true, true, true, true, true, false] rfl rfl (by kernel_rfl) (fun _ _ _ h => h) (Or.inl ⟨by rfl, ?_⟩) hHeld ?_ ?_; rotate_left; (rintro w' ⟨s0, s1, s2⟩; have c_0 := s0.cell; have f_0 := s0.free; have c_1 := s1.cell; have f_1 := s1.free; go_simp; with_reducible rfl); rotate_left; (simp only [Act.put, List.setIfInBounds_toArray, List.set_cons_zero, List.set_cons_succ]; rfl)
    refine pure_ (i := 5) (N := (some 10)) (v := ?_) (a' := ?_) #[true, true, true, true, true, true] rfl rfl (by kernel_rfl) (fun _ _ _ h => h) (Or.inl ⟨by rfl, ?_⟩) ?_ ?_; rotate_left; (intro w'; go_simp; with_reducible rfl); rotate_left; (simp only [Act.put, List.setIfInBounds_toArray, List.set_cons_zero, List.set_cons_succ]; rfl)
    try clear hHeld
    refine done_ (by kernel_rfl) ?_
    go_wp2
    refine begin_ (n := 10) (S := fun w' => Blk w' (W.heap.size) (24) #[.int .i64 T, .int .i64 S, .int .i64 K, .int .i64 G, .int .u64 Q] ∧ Blk w' (W.heap.size + 1) (54) #[.int .i64 slot, .int .i64 other] ∧ Below W.heap.size W w') (ds := []) #[false, false, false, false, false, false, false, false, false, false] (by kernel_rfl) rfl rfl ⟨(by ((exact got); done)), (by ((exact got); done)), (by ((exact gotB); done))⟩ (fun wd hHeld => ?_)
    (try clear BC)
    (try clear BP)
    (try clear HB)
    have ⟨BC, BP, HB⟩ := hHeld
    refine pure_ (i := 1) (N := (some 27)) (v := ?_) (a' := ?_) #[false, true, false, false, false, false, false, false, false, false] rfl rfl (by kernel_rfl) (fun _ _ _ h => h) (Or.inl ⟨by rfl, ?_⟩) ?_ ?_; rotate_left; (intro w'; go_simp; with_reducible rfl); rotate_left; (simp only [Act.put, List.setIfInBounds_toArray, List.set_cons_zero, List.set_cons_succ]; rfl)
    refine pure_ (i := 2) (N := (some 28)) (v := ?_) (a' := ?_) #[false, true, true, false, false, false, false, false, false, false] rfl rfl (by kernel_rfl) (fun _ _ _ h => h) (Or.inl ⟨by rfl, ?_⟩) ?_ ?_; rotate_left; (intro w'; go_simp; with_reducible rfl); rotate_left; (simp only [Act.put, List.setIfInBounds_toArray, List.set_cons_zero, List.set_cons_succ]; rfl)
    refine pure_ (i := 5) (N := (some 31)) (v := ?_) (a' := ?_) #[false, true, true, false, false, true, false, false, false, false] rfl rfl (by kernel_rfl) (fun _ _ _ h => h) (Or.inl ⟨by rfl, ?_⟩) ?_ ?_; rotate_left; (intro w'; go_simp; with_reducible rfl); rotate_left; (simp only [Act.put, List.setIfInBounds_toArray, List.set_cons_zero, List.set_cons_succ]; rfl)
    refine pure_ (i := 6) (N := (some 32)) (v := ?_) (a' := ?_) #[false, true, true, false, false, true, true, false, false, false] rfl rfl (by kernel_rfl) (fun _ _ _ h => h) (Or.inl ⟨by rfl, ?_⟩) ?_ ?_; rotate_left; (intro w'; go_simp; with_reducible rfl); rotate_left; (simp only [Act.put, List.setIfInBounds_toArray, List.set_cons_zero, List.set_cons_succ]; rfl)
    refine take_ (i := 0) (N := (some 26)) (v := ?_) (a' := ?_) #[true, true, true, false, false, true, true, false, false, false] rfl rfl (by kernel_rfl) (fun _ _ _ h => h) (Or.inl ⟨by rfl, ?_⟩) hHeld ?_ ?_; rotate_left; (rintro w' ⟨s0, s1, s2⟩; have c_0 := s0.cell; have f_0 := s0.free; have c_1 := s1.cell; have f_1 := s1.free; go_simp; with_reducible rfl); rotate_left; (simp only [Act.put, List.setIfInBounds_toArray, List.set_cons_zero, List.set_cons_succ]; rfl)
    refine take_ (i := 4) (N := (some 30)) (v := ?_) (a' := ?_) #[true, true, true, false, true, true, true, false, false, false] rfl rfl (by kernel_rfl) (fun _ _ _ h => h) (Or.inl ⟨by rfl, ?_⟩) hHeld ?_ ?_; rotate_left; (rintro w' ⟨s0, s1, s2⟩; have c_0 := s0.cell; have f_0 := s0.free; have c_1 := s1.cell; have f_1 := s1.free; go_simp; with_reducible rfl); rotate_left; (simp only [Act.put, List.setIfInBounds_toArray, List.set_cons_zero, List.set_cons_succ]; rfl)
    refine one_ (i := 3) (N := (some 29)) #[true, true, true, true, true, true, true, false, false, false] rfl rfl (by kernel_rfl) (by decide) (fun Kc hK => ?_)
    try clear hHeld
    refine goes_ Try.func10 (by kernel_rfl) rfl #[.agg #[.int .i64 T, .int .i64 S, .int .i64 K, .int .i64 G, .int .u64 Q], .int .i64 slot, .int .u64 number] (by rfl) rfl rfl (by (try simp only [List.map_toArray, List.map_cons, List.map_nil]); first | done | rfl) ?_
    refine (Ev.new_any T S K G Q slot number _).mono ?_
    rintro e w5 ⟨a, rfl, hbl⟩
    refine ⟨_, rfl, ?_⟩
    replace BC := Blk.later hbl BC
    replace BP := Blk.later hbl BP
    replace HB := below_step HB hbl
    refine hK.out _ _ ⟨BC, BP, HB⟩ (fun hHeld => ?_)
    clear hK Kc
    refine norm_ (a' := ?_) ?_ ?_; rotate_left; (first | (show Act.put _ (some 29) _ = _; (simp only [Act.put, List.setIfInBounds_toArray, List.set_cons_zero, List.set_cons_succ]; rfl)) | rfl)
    refine one_ (i := 7) (N := (some 33)) #[true, true, true, true, true, true, true, true, false, false] rfl rfl (by kernel_rfl) (by decide) (fun Kc hK => ?_)
    try clear hHeld
    refine goes_ Try.func10 (by kernel_rfl) rfl #[.agg #[.int .i64 T, .int .i64 S, .int .i64 K, .int .i64 G, .int .u64 Q], .int .i64 slot, .int .u64 number] (by rfl) rfl rfl (by (try simp only [List.map_toArray, List.map_cons, List.map_nil]); first | done | rfl) ?_
    refine (Ev.new_any T S K G Q slot number _).mono ?_
    rintro e w6 ⟨a2, rfl, hbl⟩
    refine ⟨_, rfl, ?_⟩
    replace BC := Blk.later hbl BC
    replace BP := Blk.later hbl BP
    replace HB := below_step HB hbl
    refine hK.out _ _ ⟨BC, BP, HB⟩ (fun hHeld => ?_)
    clear hK Kc
    refine norm_ (a' := ?_) ?_ ?_; rotate_left; (first | (show Act.put _ (some 33) _ = _; (simp only [Act.put, List.setIfInBounds_toArray, List.set_cons_zero, List.set_cons_succ]; rfl)) | rfl)
    refine pure_ (i := 8) (N := (some 11)) (v := ?_) (a' := ?_) #[true, true, true, true, true, true, true, true, true, false] rfl rfl (by kernel_rfl) (fun _ _ _ h => h) (Or.inl ⟨by rfl, ?_⟩) ?_ ?_; rotate_left; (intro w'; go_simp; with_reducible rfl); rotate_left; (simp only [Act.put, List.setIfInBounds_toArray, List.set_cons_zero, List.set_cons_succ]; rfl)
    refine pure_ (i := 9) (N := (some 12)) (v := ?_) (a' := ?_) #[true, true, true, true, true, true, true, true, true, true] rfl rfl (by kernel_rfl) (fun _ _ _ h => h) (Or.inl ⟨by rfl, ?_⟩) ?_ ?_; rotate_left; (intro w'; go_simp; with_reducible rfl); rotate_left; (simp only [Act.put, List.setIfInBounds_toArray, List.set_cons_zero, List.set_cons_succ]; rfl)
    try clear hHeld
    refine done_ (by kernel_rfl) ?_
    have c_BC := BC.cell; have f_BC := BC.free; have c_BP := BP.cell; have f_BP := BP.free
    have hge : ¬ other < 0 → S ≤ other := fun h => by omega
    go_wp2_with (go_at_call 11; refine (Ev.alive_calls _).mono ?_; rintro e w3 ⟨rfl, hb3⟩; have N_BC : Blk w3 (W.heap.size) (24) #[.int .i64 T, .int .i64 S, .int .i64 K, .int .i64 G, .int .u64 Q] := Blk.later hb3 (by exact got); have N_BP : Blk w3 (W.heap.size + 1) (54) #[.int .i64 slot, .int .i64 other] := Blk.later hb3 (by exact got); have N_HB : Below W.heap.size W w3 := below_step (by exact gotB) hb3; (try clear c_BC f_BC c_BP f_BP); (try clear BC BP HB); have BC := N_BC; have BP := N_BP; have HB := N_HB; clear N_BC N_BP N_HB)
    go_ret
    exact ⟨rfl, HB⟩

set_option maxHeartbeats 2000000 in
theorem stays_some (W : World) (T S K G Q number slot other : Int) (hr : Cfg.Rt ⟨T, S, K, G, Q⟩) (hn : Word number) (h0 : 0 ≤ other) (h1 : other < S) :
    Calls Try.prog 7 #[.agg #[.int .i64 T, .int .i64 S, .int .i64 K, .int .i64 G, .int .u64 Q], .int .u64 number, .agg #[.int .i64 slot, .int .i64 other]] W fun e W' => e = .returned (.bool true) ∧ Below W.heap.size W W' := by
  have hS : 1 ≤ S ∧ S ≤ 12 := ⟨hr.2.2.1, hr.2.2.2.1⟩
  have HB := Below.refl W.heap.size W
  have hn0 : ¬ other < 0 := by omega
  have hn1 : ¬ S ≤ other := by omega
  go_enter Try.func7, Try.ntmps7
  go_wp2_with (go_at_call 20; refine (storenew_c ⟨T, S, K, G, Q⟩ _ hr).mono ?_; rintro e w1 ⟨m, rfl, wb, hM, hb1, gm, gwb⟩; simp at gm gwb; have N_BC : Blk w1 (W.heap.size) (24) #[.int .i64 T, .int .i64 S, .int .i64 K, .int .i64 G, .int .u64 Q] := Blk.later hb1 (by exact got); have N_BP : Blk w1 (W.heap.size + 1) (54) #[.int .i64 slot, .int .i64 other] := Blk.later hb1 (by exact got); have N_HB : Below W.heap.size W w1 := below_step (by exact gotB) hb1; (try clear c_BC f_BC c_BP f_BP); (try clear BC BP HB); have BC := N_BC; have BP := N_BP; have HB := N_HB; clear N_BC N_BP N_HB; have c_BC := BC.cell; have f_BC := BC.free; have c_BP := BP.cell; have f_BP := BP.free; have ok := hM.ok; have Bm := hM.obj; have Bw := hM.words; have hz1 := HB.size)
  refine begin_ (n := 6) (S := fun w' => Blk w' (W.heap.size) (24) #[.int .i64 T, .int .i64 S, .int .i64 K, .int .i64 G, .int .u64 Q] ∧ Blk w' (W.heap.size + 1) (54) #[.int .i64 slot, .int .i64 other] ∧ Blk w' (m) (85) (memCells wb (Mem.start ⟨T, S, K, G, Q⟩ (List.replicate (Cfg.len ⟨T, S, K, G, Q⟩).toNat 0))) ∧ Blk w' (wb) (22) (wordsV (Mem.start ⟨T, S, K, G, Q⟩ (List.replicate (Cfg.len ⟨T, S, K, G, Q⟩).toNat 0)).ws) ∧ Below W.heap.size W w') (ds := []) #[false, false, false, false, false, false] (by kernel_rfl) rfl rfl ⟨(by ((exact got); done)), (by ((exact got); done)), (by ((exact got); done)), (by ((exact got); done)), (by ((exact gotB); done))⟩ (fun wd hHeld => ?_)
  (try clear BC)
  (try clear BP)
  (try clear Bm)
  (try clear Bw)
  (try clear HB)
  have ⟨BC, BP, Bm, Bw, HB⟩ := hHeld
  refine pure_ (i := 0) (N := (some 22)) (v := ?_) (a' := ?_) #[true, false, false, false, false, false] rfl rfl (by kernel_rfl) (fun _ _ _ h => h) (Or.inl ⟨by rfl, ?_⟩) ?_ ?_; rotate_left; (intro w'; go_simp; with_reducible rfl); rotate_left; (simp only [Act.put, List.setIfInBounds_toArray, List.set_cons_zero, List.set_cons_succ]; rfl)
  refine pure_ (i := 2) (N := (some 24)) (v := ?_) (a' := ?_) #[true, false, true, false, false, false] rfl rfl (by kernel_rfl) (fun _ _ _ h => h) (Or.inl ⟨by rfl, ?_⟩) ?_ ?_; rotate_left; (intro w'; go_simp; with_reducible rfl); rotate_left; (simp only [Act.put, List.setIfInBounds_toArray, List.set_cons_zero, List.set_cons_succ]; rfl)
  refine take_ (i := 1) (N := (some 23)) (v := ?_) (a' := ?_) #[true, true, true, false, false, false] rfl rfl (by kernel_rfl) (fun _ _ _ h => h) (Or.inl ⟨by rfl, ?_⟩) hHeld ?_ ?_; rotate_left; (rintro w' ⟨s0, s1, s2, s3, s4⟩; have c_0 := s0.cell; have f_0 := s0.free; have c_1 := s1.cell; have f_1 := s1.free; have c_2 := s2.cell; have f_2 := s2.free; have c_3 := s3.cell; have f_3 := s3.free; go_simp; with_reducible rfl); rotate_left; (simp only [Act.put, List.setIfInBounds_toArray, List.set_cons_zero, List.set_cons_succ]; rfl)
  refine pure_ (i := 4) (N := (some 9)) (v := ?_) (a' := ?_) #[true, true, true, false, true, false] rfl rfl (by kernel_rfl) (fun _ _ _ h => h) (Or.inl ⟨by rfl, ?_⟩) ?_ ?_; rotate_left; (intro w'; go_simp; with_reducible rfl); rotate_left; (simp only [Act.put, List.setIfInBounds_toArray, List.set_cons_zero, List.set_cons_succ]; rfl)
  refine take_ (i := 3) (N := (some 25)) (v := ?_) (a' := ?_) #[true, true, true, true, true, false] rfl rfl (by kernel_rfl) (fun _ _ _ h => h) (Or.inl ⟨by rfl, ?_⟩) hHeld ?_ ?_; rotate_left; (rintro w' ⟨s0, s1, s2, s3, s4⟩; have c_0 := s0.cell; have f_0 := s0.free; have c_1 := s1.cell; have f_1 := s1.free; have c_2 := s2.cell; have f_2 := s2.free; have c_3 := s3.cell; have f_3 := s3.free; go_simp; with_reducible rfl); rotate_left; (simp only [Act.put, List.setIfInBounds_toArray, List.set_cons_zero, List.set_cons_succ]; rfl)
  refine pure_ (i := 5) (N := (some 10)) (v := ?_) (a' := ?_) #[true, true, true, true, true, true] rfl rfl (by kernel_rfl) (fun _ _ _ h => h) (Or.inl ⟨by rfl, ?_⟩) ?_ ?_; rotate_left; (intro w'; go_simp; with_reducible rfl); rotate_left; (simp only [Act.put, List.setIfInBounds_toArray, List.set_cons_zero, List.set_cons_succ]; rfl)
  try clear hHeld
  refine done_ (by kernel_rfl) ?_
  go_wp2
  refine begin_ (n := 10) (S := fun w' => Blk w' (W.heap.size) (24) #[.int .i64 T, .int .i64 S, .int .i64 K, .int .i64 G, .int .u64 Q] ∧ Blk w' (W.heap.size + 1) (54) #[.int .i64 slot, .int .i64 other] ∧ Blk w' (m) (85) (memCells wb (Mem.start ⟨T, S, K, G, Q⟩ (List.replicate (Cfg.len ⟨T, S, K, G, Q⟩).toNat 0))) ∧ Blk w' (wb) (22) (wordsV (Mem.start ⟨T, S, K, G, Q⟩ (List.replicate (Cfg.len ⟨T, S, K, G, Q⟩).toNat 0)).ws) ∧ Below W.heap.size W w') (ds := []) #[false, false, false, false, false, false, false, false, false, false] (by kernel_rfl) rfl rfl ⟨(by ((exact got); done)), (by ((exact got); done)), (by ((exact got); done)), (by ((exact got); done)), (by ((exact gotB); done))⟩ (fun wd hHeld => ?_)
  (try clear BC)
  (try clear BP)
  (try clear Bm)
  (try clear Bw)
  (try clear HB)
  have ⟨BC, BP, Bm, Bw, HB⟩ := hHeld
  refine pure_ (i := 1) (N := (some 27)) (v := ?_) (a' := ?_) #[false, true, false, false, false, false, false, false, false, false] rfl rfl (by kernel_rfl) (fun _ _ _ h => h) (Or.inl ⟨by rfl, ?_⟩) ?_ ?_; rotate_left; (intro w'; go_simp; with_reducible rfl); rotate_left; (simp only [Act.put, List.setIfInBounds_toArray, List.set_cons_zero, List.set_cons_succ]; rfl)
  refine pure_ (i := 2) (N := (some 28)) (v := ?_) (a' := ?_) #[false, true, true, false, false, false, false, false, false, false] rfl rfl (by kernel_rfl) (fun _ _ _ h => h) (Or.inl ⟨by rfl, ?_⟩) ?_ ?_; rotate_left; (intro w'; go_simp; with_reducible rfl); rotate_left; (simp only [Act.put, List.setIfInBounds_toArray, List.set_cons_zero, List.set_cons_succ]; rfl)
  refine pure_ (i := 5) (N := (some 31)) (v := ?_) (a' := ?_) #[false, true, true, false, false, true, false, false, false, false] rfl rfl (by kernel_rfl) (fun _ _ _ h => h) (Or.inl ⟨by rfl, ?_⟩) ?_ ?_; rotate_left; (intro w'; go_simp; with_reducible rfl); rotate_left; (simp only [Act.put, List.setIfInBounds_toArray, List.set_cons_zero, List.set_cons_succ]; rfl)
  refine pure_ (i := 6) (N := (some 32)) (v := ?_) (a' := ?_) #[false, true, true, false, false, true, true, false, false, false] rfl rfl (by kernel_rfl) (fun _ _ _ h => h) (Or.inl ⟨by rfl, ?_⟩) ?_ ?_; rotate_left; (intro w'; go_simp; with_reducible rfl); rotate_left; (simp only [Act.put, List.setIfInBounds_toArray, List.set_cons_zero, List.set_cons_succ]; rfl)
  refine take_ (i := 0) (N := (some 26)) (v := ?_) (a' := ?_) #[true, true, true, false, false, true, true, false, false, false] rfl rfl (by kernel_rfl) (fun _ _ _ h => h) (Or.inl ⟨by rfl, ?_⟩) hHeld ?_ ?_; rotate_left; (rintro w' ⟨s0, s1, s2, s3, s4⟩; have c_0 := s0.cell; have f_0 := s0.free; have c_1 := s1.cell; have f_1 := s1.free; have c_2 := s2.cell; have f_2 := s2.free; have c_3 := s3.cell; have f_3 := s3.free; go_simp; with_reducible rfl); rotate_left; (simp only [Act.put, List.setIfInBounds_toArray, List.set_cons_zero, List.set_cons_succ]; rfl)
  refine take_ (i := 4) (N := (some 30)) (v := ?_) (a' := ?_) #[true, true, true, false, true, true, true, false, false, false] rfl rfl (by kernel_rfl) (fun _ _ _ h => h) (Or.inl ⟨by rfl, ?_⟩) hHeld ?_ ?_; rotate_left; (rintro w' ⟨s0, s1, s2, s3, s4⟩; have c_0 := s0.cell; have f_0 := s0.free; have c_1 := s1.cell; have f_1 := s1.free; have c_2 := s2.cell; have f_2 := s2.free; have c_3 := s3.cell; have f_3 := s3.free; go_simp; with_reducible rfl); rotate_left; (simp only [Act.put, List.setIfInBounds_toArray, List.set_cons_zero, List.set_cons_succ]; rfl)
  refine one_ (i := 3) (N := (some 29)) #[true, true, true, true, true, true, true, false, false, false] rfl rfl (by kernel_rfl) (by decide) (fun Kc hK => ?_)
  try clear hHeld
  refine goes_ Try.func10 (by kernel_rfl) rfl #[.agg #[.int .i64 T, .int .i64 S, .int .i64 K, .int .i64 G, .int .u64 Q], .int .i64 slot, .int .u64 number] (by rfl) rfl rfl (by (try simp only [List.map_toArray, List.map_cons, List.map_nil]); first | done | rfl) ?_
  refine (new_c2 T S K G Q slot number _ _ (by omega) (by omega) HB.size).mono ?_
  rintro e w5 ⟨a, k1, k2, k3, rfl, hA, hbl, ga, g1, g2, g3, qa, qk⟩
  refine ⟨_, rfl, ?_⟩
  replace BC := Blk.later hbl BC
  replace BP := Blk.later hbl BP
  replace Bm := Blk.later hbl Bm
  replace Bw := Blk.later hbl Bw
  replace HB := below_step HB hbl
  have hz5 := HB.size
  have la := hA.obj.lt
  have la1 := hA.next.b1.lt
  try simp at ga g1
  refine hK.out _ _ ⟨BC, BP, Bm, Bw, HB⟩ (fun hHeld => ?_)
  clear hK Kc
  refine norm_ (a' := ?_) ?_ ?_; rotate_left; (first | (show Act.put _ (some 29) _ = _; (simp only [Act.put, List.setIfInBounds_toArray, List.set_cons_zero, List.set_cons_succ]; rfl)) | rfl)
  refine one_ (i := 7) (N := (some 33)) #[true, true, true, true, true, true, true, true, false, false] rfl rfl (by kernel_rfl) (by decide) (fun Kc hK => ?_)
  try clear hHeld
  refine goes_ Try.func10 (by kernel_rfl) rfl #[.agg #[.int .i64 T, .int .i64 S, .int .i64 K, .int .i64 G, .int .u64 Q], .int .i64 slot, .int .u64 number] (by rfl) rfl rfl (by (try simp only [List.map_toArray, List.map_cons, List.map_nil]); first | done | rfl) ?_
  refine (new_c2 T S K G Q slot number _ _ (by omega) (by omega) HB.size).mono ?_
  rintro e w6 ⟨b, l1, l2, l3, rfl, hC, hbl, gb, f1, f2, f3, qb, ql⟩
  refine ⟨_, rfl, ?_⟩
  replace BC := Blk.later hbl BC
  replace BP := Blk.later hbl BP
  replace Bm := Blk.later hbl Bm
  replace Bw := Blk.later hbl Bw
  replace HB := below_step HB hbl
  replace hA := hA.later hbl
  try simp at gb f1 f2 f3
  refine hK.out _ _ ⟨BC, BP, Bm, Bw, HB⟩ (fun hHeld => ?_)
  clear hK Kc
  refine norm_ (a' := ?_) ?_ ?_; rotate_left; (first | (show Act.put _ (some 33) _ = _; (simp only [Act.put, List.setIfInBounds_toArray, List.set_cons_zero, List.set_cons_succ]; rfl)) | rfl)
  refine pure_ (i := 8) (N := (some 11)) (v := ?_) (a' := ?_) #[true, true, true, true, true, true, true, true, true, false] rfl rfl (by kernel_rfl) (fun _ _ _ h => h) (Or.inl ⟨by rfl, ?_⟩) ?_ ?_; rotate_left; (intro w'; go_simp; with_reducible rfl); rotate_left; (simp only [Act.put, List.setIfInBounds_toArray, List.set_cons_zero, List.set_cons_succ]; rfl)
  refine pure_ (i := 9) (N := (some 12)) (v := ?_) (a' := ?_) #[true, true, true, true, true, true, true, true, true, true] rfl rfl (by kernel_rfl) (fun _ _ _ h => h) (Or.inl ⟨by rfl, ?_⟩) ?_ ?_; rotate_left; (intro w'; go_simp; with_reducible rfl); rotate_left; (simp only [Act.put, List.setIfInBounds_toArray, List.set_cons_zero, List.set_cons_succ]; rfl)
  try clear hHeld
  refine done_ (by kernel_rfl) ?_
  have hz6 := HB.size
  have c_BC := BC.cell; have f_BC := BC.free; have c_BP := BP.cell; have f_BP := BP.free; have c_Bm := Bm.cell; have f_Bm := Bm.free; have c_Bw := Bw.cell; have f_Bw := Bw.free
  have hMM : MemAt w6 m wb (Mem.start ⟨T, S, K, G, Q⟩ (List.replicate (Cfg.len ⟨T, S, K, G, Q⟩).toNat 0)) := ⟨Bm, Bw, ok⟩
  clear Bm Bw
  have ap := hC.apart hMM
  simp only [not_or] at ap
  go_wp2_with fail
  go_at_call 12
  refine (lawends_c a k1 k2 k3 m wb 100 _ (Mem.start ⟨T, S, K, G, Q⟩ (List.replicate (Cfg.len ⟨T, S, K, G, Q⟩).toNat 0)) _ hA hMM (by show S ≤ 900; omega) (by omega)).mono ?_
  rintro e w8 ⟨j, rfl, hj1, hj2, hA8, hM8, hK8⟩
  have hM8ok := hM8.ok
  have lm8 := hM8.obj.lt
  have lw8 := hM8.words.lt
  replace HB := Below.trans HB (Keep.below hK8 (by omega) (by intro i hi; (try dsimp only); omega))
  replace hC := hC.keep hK8 (by intro hh; (try dsimp only at hh); omega) (by intro hh; (try dsimp only at hh); omega) (by intro hh; (try dsimp only at hh); omega) (by intro hh; (try dsimp only at hh); omega)
  clear hA8 hA hMM
  have hW : Word 268435456 := by constructor <;> omega
  go_wp2_with fail
  go_at_call 22
  refine (Ev.of_c _ _ _).mono ?_
  rintro e w9 ⟨rfl, hb9⟩
  replace hM8 := hM8.later hb9; replace hC := hC.later hb9; replace HB := below_step HB hb9
  go_wp2_with fail
  go_at_call 21
  refine (store_c m wb (stepN j ((AgeS.new S slot number), (Mem.start ⟨T, S, K, G, Q⟩ (List.replicate (Cfg.len ⟨T, S, K, G, Q⟩).toNat 0)))).2 5 other number _ hM8 hn).mono ?_
  rintro e w10 ⟨rfl, hM10, hK10⟩
  have hz9 := HB.size
  replace HB := Below.trans HB (Keep.below hK10 (by omega) (by intro i hi; (try dsimp only); omega))
  replace hC := hC.keep hK10 (by intro hh; (try dsimp only at hh); omega) (by intro hh; (try dsimp only at hh); omega) (by intro hh; (try dsimp only at hh); omega) (by intro hh; (try dsimp only at hh); omega)
  clear hM8
  go_wp2_with fail
  go_at_call 22
  refine (Ev.of_c _ _ _).mono ?_
  rintro e w11 ⟨rfl, hb11⟩
  replace hM10 := hM10.later hb11; replace hC := hC.later hb11; replace HB := below_step HB hb11
  go_wp2_with fail
  go_at_call 23
  refine (Ev.active_c _).mono ?_
  rintro e w12 ⟨rfl, hb12⟩
  replace hM10 := hM10.later hb12; replace hC := hC.later hb12; replace HB := below_step HB hb12
  go_wp2_with fail
  go_at_call 21
  refine (store_c m wb ((stepN j ((AgeS.new S slot number), (Mem.start ⟨T, S, K, G, Q⟩ (List.replicate (Cfg.len ⟨T, S, K, G, Q⟩).toNat 0)))).2.store 5 other number) 4 other 268435456 _ hM10 hW).mono ?_
  rintro e w13 ⟨rfl, hM13, hK13⟩
  have lm13 := hM13.obj.lt
  have lw13 := hM13.words.lt
  have hz12 := HB.size
  replace HB := Below.trans HB (Keep.below hK13 (by omega) (by intro i hi; (try dsimp only); omega))
  replace hC := hC.keep hK13 (by intro hh; (try dsimp only at hh); omega) (by intro hh; (try dsimp only at hh); omega) (by intro hh; (try dsimp only at hh); omega) (by intro hh; (try dsimp only at hh); omega)
  clear hM10
  go_wp2_with fail
  go_at_call 12
  refine (lawends_c b l1 l2 l3 m wb 100 _ (((stepN j ((AgeS.new S slot number), (Mem.start ⟨T, S, K, G, Q⟩ (List.replicate (Cfg.len ⟨T, S, K, G, Q⟩).toNat 0)))).2.store 5 other number).store 4 other 268435456) _ hC hM13 (by show S ≤ 900; omega) (by omega)).mono ?_
  rintro e w14 ⟨j', rfl, hi1, hi2, hC14, hM14, hK14⟩
  have hz13 := HB.size
  replace HB := Below.trans HB (Keep.below hK14 (by omega) (by intro i hi; (try dsimp only); omega))
  have hz : ∀ k o, (Mem.at (Mem.start ⟨T, S, K, G, Q⟩ (List.replicate (Cfg.len ⟨T, S, K, G, Q⟩).toNat 0)) k o) = 0 := start_zero _ _
  have hx : (stepN j ((AgeS.new S slot number), (Mem.start ⟨T, S, K, G, Q⟩ (List.replicate (Cfg.len ⟨T, S, K, G, Q⟩).toNat 0)))).1.later = false := by
    cases hc : (stepN j ((AgeS.new S slot number), (Mem.start ⟨T, S, K, G, Q⟩ (List.replicate (Cfg.len ⟨T, S, K, G, Q⟩).toNat 0)))).1.later
    · rfl
    · exact absurd ((ended (Mem.start ⟨T, S, K, G, Q⟩ (List.replicate (Cfg.len ⟨T, S, K, G, Q⟩).toNat 0)) S slot number j ⟨by omega, by omega⟩ hj2).2.1 hc) (nobody hz S slot number)
  have hm2 := stepN_mem j (AgeS.new S slot number) (Mem.start ⟨T, S, K, G, Q⟩ (List.replicate (Cfg.len ⟨T, S, K, G, Q⟩).toNat 0))
  have hok2 : (stepN j ((AgeS.new S slot number), (Mem.start ⟨T, S, K, G, Q⟩ (List.replicate (Cfg.len ⟨T, S, K, G, Q⟩).toNat 0)))).2.Ok := hM8ok
  have hy : (stepN j' ((AgeS.new S slot number), (((stepN j ((AgeS.new S slot number), (Mem.start ⟨T, S, K, G, Q⟩ (List.replicate (Cfg.len ⟨T, S, K, G, Q⟩).toNat 0)))).2.store 5 other number).store 4 other 268435456))).1.later = false := by
    cases hc : (stepN j' ((AgeS.new S slot number), (((stepN j ((AgeS.new S slot number), (Mem.start ⟨T, S, K, G, Q⟩ (List.replicate (Cfg.len ⟨T, S, K, G, Q⟩).toNat 0)))).2.store 5 other number).store 4 other 268435456))).1.later
    · rfl
    · have hs2 := stays hok2 (fun k o => (at_of hm2.2 hm2.1 k o).trans (hz k o)) other number slot h0 (by rw [hm2.2]; exact h1) hn
      rw [hm2.2] at hs2
      exact absurd ((ended (((stepN j ((AgeS.new S slot number), (Mem.start ⟨T, S, K, G, Q⟩ (List.replicate (Cfg.len ⟨T, S, K, G, Q⟩).toNat 0)))).2.store 5 other number).store 4 other 268435456) S slot number j' ⟨by omega, by omega⟩ hi2).2.1 hc) hs2
  have HX := Lib.hid hx
  have HY := Lib.hid hy
  clear hx hy hm2
  go_wp2_with fail
  go_at_call 11
  refine (Ev.alive_calls _).mono ?_
  rintro e w3 ⟨rfl, hb3⟩
  replace HB := below_step HB hb3
  rw [HX.out, HY.out]
  go_wp2
  go_ret
  exact ⟨rfl, HB⟩
theorem walkAgeStays (W : World) (T S K G Q : Int) (wT : (Lit.int .i64 T).wf = true) (wS : (Lit.int .i64 S).wf = true) (wK : (Lit.int .i64 K).wf = true) (wG : (Lit.int .i64 G).wf = true) (wQ : (Lit.int .u64 Q).wf = true)
    (number : Int) (wn : (Lit.int .u64 number).wf = true) (slot other : Int) (wx : (Lit.int .i64 slot).wf = true) (wy : (Lit.int .i64 other).wf = true) :
    Calls Try.prog 7 #[.agg #[.int .i64 T, .int .i64 S, .int .i64 K, .int .i64 G, .int .u64 Q], .int .u64 number, .agg #[.int .i64 slot, .int .i64 other]] W fun e W' => e = .returned (.bool true) ∧ Below W.heap.size W W' := by
  by_cases hr : Cfg.Rt ⟨T, S, K, G, Q⟩
  · by_cases ho : other < 0 ∨ S ≤ other
    · exact stays_out W T S K G Q number slot other hr ho
    · refine stays_some W T S K G Q number slot other hr ?_ (by omega) (by omega)
      simp [Lit.wf, IntKind.min, IntKind.max, IntKind.signed, IntKind.bits] at wn
      constructor <;> omega
  · exact stays_none W T S K G Q number slot other hr
end Go.Proofs.Ytbgdhahdihbpaaa.Pure
