/- Two rows of the same words are the same. Conditions stand in the statement. -/
import Derived.Test.YtbgdhahdihbpaaaLawKitQ
namespace Go.Proofs.Ytbgdhahdihbpaaa.Age
open Go.RowKit Go.IntWalk Go.Proofs.Ytbgdhahdihbpaaa.Own Go.Proofs.Ytbgdhahdihbpaaa.Model Go.Proofs.Ytbgdhahdihbpaaa.Store Go.Proofs.Ytbgdhahdihbpaaa.Status
open Go.Proofs.YtbgdhahdihbpaaaW.PrintLast
set_option linter.unusedSimpArgs false
set_option linter.unusedVariables false
theorem same_c (pb po qb qo n c1 c2 : Nat) (ws : List Int) (W : World) (hp : Lies W ⟨pb, po, none⟩ ws) (hq : Lies W ⟨qb, qo, none⟩ ws) (hnn : ws.length = n) (hs : n ≤ 100) :
    Calls Try.prog 16 #[.slice (some ⟨pb, po, none⟩) n c1, .slice (some ⟨qb, qo, none⟩) n c2] W fun e W' => e = .returned (.bool true) ∧ Below W.heap.size W W' := by
  have hb : ((n : Int) != (n : Int)) = false := by simp
  have HB := Below.refl W.heap.size W
  have HP : LiesAt ⟨pb, po, none⟩ ws W := hp
  have HQ : LiesAt ⟨qb, qo, none⟩ ws W := hq
  clear hp hq
  go_enter Try.func16, Try.ntmps16
  go_wp2
  go_loopw [5] (fun i wr => ∃ k : Nat, k ≤ n ∧ i = .int .i64 k ∧ Below W.heap.size W wr ∧ LiesAt ⟨pb, po, none⟩ ws wr ∧ LiesAt ⟨qb, qo, none⟩ ws wr) (fun i _ => n - (intOf i).toNat)
  case atStart => exact ⟨0, by omega, rfl, HB, HP, HQ⟩
  case round =>
    obtain ⟨k, hk, rfl, HB, HP, HQ⟩ := hrel
    rcases Nat.lt_or_ge k n with hlt | hge
    · have hl : k < ws.length := by omega
      have hn0 : (0 : Int) ≤ (k : Int) := by omega
      have hnl : (k : Int) < (n : Int) := by omega
      go_wp2
      refine begin_ (n := 9) (S := fun w' => Below W.heap.size W w' ∧ LiesAt ⟨pb, po, none⟩ ws w' ∧ LiesAt ⟨qb, qo, none⟩ ws w') (ds := []) #[false, false, false, false, false, false, false, false, false] (by kernel_rfl) rfl rfl ⟨(by ((exact gotB); done)), (by ((repeat (first | (with_reducible assumption) | (with_reducible apply Lies.drew) | (with_reducible apply Lies.alloc))); done)), (by ((repeat (first | (with_reducible assumption) | (with_reducible apply Lies.drew) | (with_reducible apply Lies.alloc))); done))⟩ (fun wd hHeld => ?_)
      (try clear HB)
      (try clear HP)
      (try clear HQ)
      have ⟨HB, HP, HQ⟩ := hHeld
      refine pure_ (i := 0) (N := (some 17)) (v := ?_) (a' := ?_) #[true, false, false, false, false, false, false, false, false] rfl rfl (by kernel_rfl) (fun _ _ _ h => h) (Or.inl ⟨by rfl, ?_⟩) ?_ ?_; rotate_left; (intro w'; go_simp; with_reducible rfl); rotate_left; (simp only [Act.put, List.setIfInBounds_toArray, List.set_cons_zero, List.set_cons_succ]; rfl)
      refine pure_ (i := 1) (N := (some 18)) (v := ?_) (a' := ?_) #[true, true, false, false, false, false, false, false, false] rfl rfl (by kernel_rfl) (fun _ _ _ h => h) (Or.inl ⟨by rfl, ?_⟩) ?_ ?_; rotate_left; (intro w'; go_simp; with_reducible rfl); rotate_left; (simp only [Act.put, List.setIfInBounds_toArray, List.set_cons_zero, List.set_cons_succ]; rfl)
      refine pure_ (i := 2) (N := (some 19)) (v := ?_) (a' := ?_) #[true, true, true, false, false, false, false, false, false] rfl rfl (by kernel_rfl) (fun _ _ _ h => h) (Or.inl ⟨by rfl, ?_⟩) ?_ ?_; rotate_left; (intro w'; go_simp; with_reducible rfl); rotate_left; (simp only [Act.put, List.setIfInBounds_toArray, List.set_cons_zero, List.set_cons_succ]; rfl)
      refine pure_ (i := 4) (N := (some 21)) (v := ?_) (a' := ?_) #[true, true, true, false, true, false, false, false, false] rfl rfl (by kernel_rfl) (fun _ _ _ h => h) (Or.inl ⟨by rfl, ?_⟩) ?_ ?_; rotate_left; (intro w'; go_simp; with_reducible rfl); rotate_left; (simp only [Act.put, List.setIfInBounds_toArray, List.set_cons_zero, List.set_cons_succ]; rfl)
      refine pure_ (i := 5) (N := (some 22)) (v := ?_) (a' := ?_) #[true, true, true, false, true, true, false, false, false] rfl rfl (by kernel_rfl) (fun _ _ _ h => h) (Or.inl ⟨by rfl, ?_⟩) ?_ ?_; rotate_left; (intro w'; go_simp; with_reducible rfl); rotate_left; (simp only [Act.put, List.setIfInBounds_toArray, List.set_cons_zero, List.set_cons_succ]; rfl)
      refine pure_ (i := 6) (N := (some 23)) (v := ?_) (a' := ?_) #[true, true, true, false, true, true, true, false, false] rfl rfl (by kernel_rfl) (fun _ _ _ h => h) (Or.inl ⟨by rfl, ?_⟩) ?_ ?_; rotate_left; (intro w'; go_simp; with_reducible rfl); rotate_left; (simp only [Act.put, List.setIfInBounds_toArray, List.set_cons_zero, List.set_cons_succ]; rfl)
      refine take_ (i := 3) (N := (some 20)) (v := ?_) (a' := ?_) #[true, true, true, true, true, true, true, false, false] rfl rfl (by kernel_rfl) (fun _ _ _ h => h) (Or.inl ⟨by rfl, ?_⟩) hHeld ?_ ?_; rotate_left; (rintro w' ⟨s0, s1, s2⟩; skip; have cl := s1.cells k hl; rw [addr_at _ rfl] at cl; go_simp; with_reducible rfl); rotate_left; (simp only [Act.put, List.setIfInBounds_toArray, List.set_cons_zero, List.set_cons_succ]; rfl)
      refine take_ (i := 7) (N := (some 24)) (v := ?_) (a' := ?_) #[true, true, true, true, true, true, true, true, false] rfl rfl (by kernel_rfl) (fun _ _ _ h => h) (Or.inl ⟨by rfl, ?_⟩) hHeld ?_ ?_; rotate_left; (rintro w' ⟨s0, s1, s2⟩; skip; have cl := s2.cells k hl; rw [addr_at _ rfl] at cl; go_simp; with_reducible rfl); rotate_left; (simp only [Act.put, List.setIfInBounds_toArray, List.set_cons_zero, List.set_cons_succ]; rfl)
      refine pure_ (i := 8) (N := (some 25)) (v := ?_) (a' := ?_) #[true, true, true, true, true, true, true, true, true] rfl rfl (by kernel_rfl) (fun _ _ _ h => h) (Or.inl ⟨by rfl, ?_⟩) ?_ ?_; rotate_left; (intro w'; go_simp; with_reducible rfl); rotate_left; (simp only [Act.put, List.setIfInBounds_toArray, List.set_cons_zero, List.set_cons_succ]; rfl)
      try clear hHeld
      refine done_ (by kernel_rfl) ?_
      go_wp2
      go_roundw
      case rel => exact ⟨k + 1, by omega, by go_num, HB, HP, HQ⟩
      case measure => simp [intOf]; omega
    · have he : k = n := by omega
      subst he
      go_wp2
      go_ret
      exact ⟨rfl, HB⟩
theorem same_n (pb po qb qo m n c1 c2 : Nat) (ws : List Int) (W : World) (hp : Lies W ⟨pb, po, none⟩ ws) (hq : Lies W ⟨qb, qo, none⟩ ws) (hnn : ws.length = n) (hm : m = n) (hs : n ≤ 100) :
    Calls Try.prog 16 #[.slice (some ⟨pb, po, none⟩) m c1, .slice (some ⟨qb, qo, none⟩) n c2] W fun e W' => e = .returned (.bool true) ∧ Below W.heap.size W W' := by
  subst hm
  exact same_c pb po qb qo _ c1 c2 ws W hp hq hnn hs
end Go.Proofs.Ytbgdhahdihbpaaa.Age
