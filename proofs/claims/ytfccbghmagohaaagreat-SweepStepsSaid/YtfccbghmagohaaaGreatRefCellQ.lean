/- The document's list of spots, how many there are, and where one stands, in a world that is right. No condition. -/
import Derived.Test.YtfccbghmagohaaaGreatSpotsQ
namespace Go.Proofs.YtfccbghmagohaaaGreat.Bound
open Go.Proofs.YtfccbghmagohaaaGreat.Ev
set_option linter.unusedVariables false
def spotsL (T S K : Int) : List (List Int) := [[1, 0], [2, 0]] ++ rowsOf (fun t => [[3, t]]) T.toNat 0 ++ rowsOf (fun t => [[4, t], [5, t], [6, t], [7, t]]) S.toNat 0 ++ rowsOf (fun t => [[8, t]]) K.toNat 0
def lenN (T S K : Int) : Nat := 2 + T.toNat + 4 * S.toNat + K.toNat
theorem spotsL_length (T S K : Int) : (spotsL T S K).length = lenN T S K := by
  simp only [spotsL, lenN, List.length_append, rowsOf_length (d := 1) (g := fun t => [[3, t]]) (fun _ => rfl), rowsOf_length (d := 4) (g := fun t => [[4, t], [5, t], [6, t], [7, t]]) (fun _ => rfl), rowsOf_length (d := 1) (g := fun t => [[8, t]]) (fun _ => rfl)]
  simp
def spF : FForm := ⟨[.agg [.int .i64, .int .i64, .int .i64, .int .i64, .int .u64]], [], [⟨[(0, .nilSlice)], 1, [], 0, []⟩, ⟨[(0, .slice 0 0 (some 8192))], 1, [(0, 50, .recs [.int .i64, .int .i64])], 1, []⟩]⟩
theorem spots_no (T S K G Q : Int) : walk (endF (ev sp_sums 60 85) spF [.i T, .i S, .i K, .i G, .i Q]) [true] = some ([!right T S K G Q], (0, [])) := by kernel_rfl
theorem spots_yes (T S K G Q : Int) : walk (endF (ev sp_sums 60 85) spF [.i T, .i S, .i K, .i G, .i Q]) [false, true, true, true] =
    some ([!right T S K G Q, cdec (l1_I [.n 2, .n 2, .i 0, .i T, .i S, .i K, .i G, .i Q, .rs [[1, 0], [2, 0]]]),
      cdec (l2_I [.n (2 + 1 * (T - 0).toNat), .n (2 + 1 * (T - 0).toNat), .i 0, .i T, .i S, .i K, .i G, .i Q, .rs ([[1, 0], [2, 0]] ++ rowsOf (fun t => [[3, t]]) (T - 0).toNat 0)]),
      cdec (l3_I [.n (2 + 1 * (T - 0).toNat + 4 * (S - 0).toNat), .n (2 + 1 * (T - 0).toNat + 4 * (S - 0).toNat), .i 0, .i T, .i S, .i K, .i G, .i Q, .rs ([[1, 0], [2, 0]] ++ rowsOf (fun t => [[3, t]]) (T - 0).toNat 0 ++ rowsOf (fun t => [[4, t], [5, t], [6, t], [7, t]]) (S - 0).toNat 0)])],
      (1, [.n (2 + 1 * (T - 0).toNat + 4 * (S - 0).toNat + 1 * (K - 0).toNat), .n (2 + 1 * (T - 0).toNat + 4 * (S - 0).toNat + 1 * (K - 0).toNat), .rs ([[1, 0], [2, 0]] ++ rowsOf (fun t => [[3, t]]) (T - 0).toNat 0 ++ rowsOf (fun t => [[4, t], [5, t], [6, t], [7, t]]) (S - 0).toNat 0 ++ rowsOf (fun t => [[8, t]]) (K - 0).toNat 0)])) := by kernel_rfl
theorem right_iff {T S K G Q : Int} : right T S K G Q = true ↔ 1 ≤ T ∧ T ≤ 8 ∧ 1 ≤ S ∧ S ≤ 12 ∧ 1 ≤ K ∧ K ≤ 8 ∧ 0 ≤ G ∧ G ≤ 1073741823 ∧ Q ≤ 1099511627775 := by simp [right]
def spI : List Atom → Prop
  | [.i T, .i S, .i K, .i G, .i Q] => True
  | _ => False
def spOut : List Atom → Tree (Nat × List Atom)
  | [.i T, .i S, .i K, .i G, .i Q] => .br (right T S K G Q) (.leaf (1, [.n (lenN T S K), .n (lenN T S K), .rs (spotsL T S K)])) (.leaf (0, []))
  | _ => .bad
theorem sp_step (x : List Atom) (h : spI x) : ∃ r, (endF (ev sp_sums 60 85) spF x).get = some r ∧ (spOut x).get = some r := by
  unfold spI at h
  split at h
  · rename_i T S K G Q
    cases hR : right T S K G Q with
    | false => exact ⟨_, get_walk (spots_no T S K G Q) (by rw [hR]; rfl), by simp [spOut, hR]⟩
    | true =>
      obtain ⟨a1, a2, b1, b2, c1, c2, _⟩ := right_iff.1 hR
      refine ⟨_, get_walk (spots_yes T S K G Q) ?_, ?_⟩
      · have g3 : ∀ n t, (rowsOf (fun t => [[3, t]]) n t).length = 1 * n := rowsOf_length (fun _ => rfl)
        have g4 : ∀ n t, (rowsOf (fun t => [[4, t], [5, t], [6, t], [7, t]]) n t).length = 4 * n := rowsOf_length (fun _ => rfl)
        rw [hR, cdec_true, cdec_true, cdec_true]
        · rfl
        · refine ⟨rfl, by rw [List.length_append, List.length_append, g3, g4]; rfl, by omega, by omega, by omega⟩
        · refine ⟨rfl, by rw [List.length_append, g3]; rfl, by omega, by omega, by omega⟩
        · refine ⟨rfl, rfl, by omega, by omega, by omega⟩
      · simp only [spOut, hR, Tree.get_br, if_true, Tree.get_leaf, Int.sub_zero, Nat.one_mul, lenN, spotsL]
  · exact h.elim
noncomputable def sums5 : Sums := withForm sums1 85 spF spI spOut
theorem sums5_ok : SumsOk sums5 := withForm_ok sums1_ok sp_ok 60 (by kernel_rfl) sp_step
end Go.Proofs.YtfccbghmagohaaaGreat.Bound
