/- The loop of the law AgeSteps: it comes to its end. No condition. -/
import Derived.Test.YtbgdhahdihbpaaaAgeSteps
import Derived.Test.YtbgdhahdihbpaaaAgeStepsN
import Derived.Test.YtbgdhahdihbpaaaWinRow
namespace Go.Proofs.Ytbgdhahdihbpaaa.Bound
open Go.Proofs.Ytbgdhahdihbpaaa.Ev Go.Proofs.Ytbgdhahdihbpaaa.ChartMath
set_option linter.unusedVariables false
set_option linter.unusedSimpArgs false
def ageM : List Atom → Nat
  | .n _ :: .i len :: .i k :: _ => (len - k).toNat
  | _ => 0
def ageOut (cells : List Int) (rs : List (List Int)) : List Atom → Tree (Ex × List Atom) := fun _ => .leaf (.exit 0, [.n 0, .ws cells, .rs rs])
set_option maxRecDepth 100000 in
theorem alive_ev : outV (ev noSums 100000 11 [] ⟨.nil, 0⟩) = some (.bool true) := by kernel_rfl
def aliveS : List Value → Option Value
  | [] => some (.bool true)
  | _ => none
theorem aliveS_ok {sums : Sums} (hs : SumsOk sums) : SumsOk (withPure sums 11 aliveS) := withPure_ok hs noSums_ok 100000 (by kernel_rfl) fun al v h => by
  unfold aliveS at h
  split at h
  · cases h; exact ⟨rfl, rfl, alive_ev⟩
  · cases h
theorem bodyAge_is : bodyOf 8 = some ((bodyOf 8).getD .skip) := by kernel_rfl
theorem ai_step (T S K G Q : Int) (l c : Nat) (len : Int) (cells : List Int) (rs : List (List Int)) (slot number steps : Int) (n cc : Nat) (x : List Atom) (hI : ∃ k, AI T S K G Q l c len cells rs slot number steps n cc k x) : ∃ e y, (roundM sumsA 60 8 9 2 AM x).get = some (e, y) ∧ (e = .normal → (∃ k, AI T S K G Q l c len cells rs slot number steps n cc k y) ∧ ageM y < ageM x ∧ (ageOut cells rs y).get = (ageOut cells rs x).get) ∧ (e ≠ .normal → (ageOut cells rs x).get = some (e, y)) := by
  obtain ⟨k, hI⟩ := hI
  have hx : ageM x = (len - k).toNat := by cases hI <;> rfl
  have hg : Goes T S K G Q l c len k cells rs slot number steps n cc (roundM sumsA 60 8 9 2 AM x) := by
    cases hI with
    | look s _ a hb h1 h2 => exact hLook_step (hg := hb) (ha0 := h1) (haS := h2) ..
    | snap s _ a hb h1 h2 => exact hSnap_step (hg := hb) (ha0 := h1) (haS := h2) ..
    | done s _ a asks later hb h1 => exact hDone_step (hg := hb) (hdn := h1) ..
  obtain ⟨e, y, h1, h2⟩ := hg
  refine ⟨e, y, h1, fun he => ?_, fun he => ?_⟩
  · rcases h2 with ⟨_, hk, hy⟩ | ⟨h, _⟩
    · have hy2 : ageM y = (len - (k + 1)).toNat := by cases hy <;> rfl
      exact ⟨⟨_, hy⟩, by omega, rfl⟩
    · rw [he] at h; cases h
  · rcases h2 with ⟨h, _⟩ | ⟨rfl, rfl⟩
    · exact absurd h he
    · rfl
noncomputable def loopA (T S K G Q : Int) (l c : Nat) (len : Int) (cells : List Int) (rs : List (List Int)) (slot number steps : Int) (n cc : Nat) : Sums := withPure (withLoop sumsA 8 9 (msum 2 AM (fun x => ∃ k, AI T S K G Q l c len cells rs slot number steps n cc k x) (ageOut cells rs))) 11 aliveS
theorem loopA_ok (T S K G Q : Int) (l c : Nat) (len : Int) (cells : List Int) (rs : List (List Int)) (slot number steps : Int) (n cc : Nat) : SumsOk (loopA T S K G Q l c len cells rs slot number steps n cc) := aliveS_ok (loop_msum sumsA_ok ageM bodyAge_is (by kernel_rfl) (by decide) (ai_step T S K G Q l c len cells rs slot number steps n cc))
theorem ai_stepN (T S K G Q : Int) (l c : Nat) (len : Int) (cells : List Int) (rs : List (List Int)) (slot number steps : Int) (x : List Atom) (hI : ∃ k, AIN T S K G Q l c len cells rs slot number steps k x) : ∃ e y, (roundM sumsA2 60 8 9 2 AMN x).get = some (e, y) ∧ (e = .normal → (∃ k, AIN T S K G Q l c len cells rs slot number steps k y) ∧ ageM y < ageM x ∧ (ageOut cells rs y).get = (ageOut cells rs x).get) ∧ (e ≠ .normal → (ageOut cells rs x).get = some (e, y)) := by
  obtain ⟨k, hI⟩ := hI
  have hx : ageM x = (len - k).toNat := by cases hI <;> rfl
  have hg : GoesN T S K G Q l c len k cells rs slot number steps (roundM sumsA2 60 8 9 2 AMN x) := by
    cases hI with
    | look s _ a hb h1 h2 => exact hLookN_step (hg := hb) (ha0 := h1) (haS := h2) ..
    | snap s _ a hb h1 h2 => exact hSnapN_step (hg := hb) (ha0 := h1) (haS := h2) ..
    | done s _ a asks later hb h1 => exact hDoneN_step (hg := hb) (hdn := h1) ..
  obtain ⟨e, y, h1, h2⟩ := hg
  refine ⟨e, y, h1, fun he => ?_, fun he => ?_⟩
  · rcases h2 with ⟨_, hk, hy⟩ | ⟨h, _⟩
    · have hy2 : ageM y = (len - (k + 1)).toNat := by cases hy <;> rfl
      exact ⟨⟨_, hy⟩, by omega, rfl⟩
    · rw [he] at h; cases h
  · rcases h2 with ⟨h, _⟩ | ⟨rfl, rfl⟩
    · exact absurd h he
    · rfl
noncomputable def loopAN (T S K G Q : Int) (l c : Nat) (len : Int) (cells : List Int) (rs : List (List Int)) (slot number steps : Int) : Sums := withPure (withLoop sumsA2 8 9 (msum 2 AMN (fun x => ∃ k, AIN T S K G Q l c len cells rs slot number steps k x) (ageOut cells rs))) 11 aliveS
theorem loopAN_ok (T S K G Q : Int) (l c : Nat) (len : Int) (cells : List Int) (rs : List (List Int)) (slot number steps : Int) : SumsOk (loopAN T S K G Q l c len cells rs slot number steps) := aliveS_ok (loop_msum sumsA2_ok ageM bodyAge_is (by kernel_rfl) (by decide) (ai_stepN T S K G Q l c len cells rs slot number steps))
noncomputable def sumsNo : Sums := withPure sumsA2 11 aliveS
theorem sumsNo_ok : SumsOk sumsNo := aliveS_ok sumsA2_ok
end Go.Proofs.Ytbgdhahdihbpaaa.Bound
