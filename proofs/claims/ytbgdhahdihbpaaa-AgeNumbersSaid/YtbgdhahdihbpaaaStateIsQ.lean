/- A word's state, by the document. Conditions stand in the statements. -/
import Derived.Test.YtbgdhahdihbpaaaPackB
import Derived.Test.YtbgdhahdihbpaaaPAgeOldestx5
namespace Go.Proofs.Ytbgdhahdihbpaaa.PAgeOldest
open Go.RowKit Go.IntWalk Go.Proofs.Ytbgdhahdihbpaaa.Own Go.Proofs.Ytbgdhahdihbpaaa.Model Go.Proofs.Ytbgdhahdihbpaaa.Status

theorem power_l (n : Nat) (hn : n ≤ 60) : ∀ (j i : Nat), i + j = n → ∀ e, umpireref01_Power.l0 (j + 1 + e) n (2 ^ i) i = some (2 ^ n) := by
  intro j
  induction j with
  | zero =>
    intro i hi e
    rw [show 0 + 1 + e = e + 1 by omega]
    unfold umpireref01_Power.l0
    rw [if_neg (by omega)]
    congr 2
  | succ j ih =>
    intro i hi e
    rw [show j + 1 + 1 + e = (j + 1 + e) + 1 by omega]
    unfold umpireref01_Power.l0
    rw [if_pos (by omega)]
    have hp : (2 : Int) * 2 ^ i = 2 ^ (i + 1) := by rw [Int.pow_succ]; omega
    have hb : (2 : Int) ^ (i + 1) ≤ 2 ^ 60 := by exact_mod_cast Nat.pow_le_pow_right (by decide) (by omega)
    have h0 : (0 : Int) ≤ 2 ^ (i + 1) := by exact_mod_cast Nat.zero_le _
    rw [hp, wraps_u64 _ h0 (by omega), show wrap64 ((i : Int) + 1) = ((i + 1 : Nat) : Int) by rw [wrap64_in _ (by omega)]; omega]
    exact ih (i + 1) (by omega) e
theorem power_is (n : Nat) (hn : n ≤ 60) (e : Nat) : umpireref01_Power.f (e + 70) n = some (2 ^ n) := by
  unfold umpireref01_Power.f
  have := power_l n hn n 0 (by omega) (e + 69 - n)
  rw [show n + 1 + (e + 69 - n) = e + 70 by omega] at this
  exact this
theorem state_is (w : Int) (hw : Word w) (e : Nat) : umpireref01_State.f (e + 70) w = some (partI w 27 3) := by
  obtain ⟨h0, h1⟩ := hw
  unfold umpireref01_State.f umpireref01_number.f
  have p1 := power_is 27 (by omega) e
  have p2 := power_is 3 (by omega) e
  rw [show ((27 : Nat) : Int) = 27 from rfl] at p1
  rw [show ((3 : Nat) : Int) = 3 from rfl] at p2
  rw [p1, p2]
  simp only [Option.bind_some]
  rw [if_neg (by decide), if_neg (by decide)]
  simp only [Option.bind_some]
  congr 1
  unfold partI
  rw [Int.tdiv_eq_ediv_of_nonneg h0]
  have q0 : 0 ≤ w / 2 ^ 27 := Int.ediv_nonneg h0 (by decide)
  have q1 : w / 2 ^ 27 ≤ w := Int.ediv_le_self _ h0
  rw [wraps_u64 _ q0 (by omega), Int.tmod_eq_emod_of_nonneg q0]
  rw [wrap64_in _ (by omega)]
  rfl
end Go.Proofs.Ytbgdhahdihbpaaa.PAgeOldest
