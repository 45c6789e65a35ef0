/- Where a spot stands, by the document and by the program, in a world that is right. No condition. -/
import Derived.Test.YtfccbghmagohaaaGreatRefCellQ
import Derived.Test.YtfccbghmagohaaaGreatChartMathQ
namespace Go.Proofs.YtfccbghmagohaaaGreat.Bound
open Go.Proofs.YtfccbghmagohaaaGreat.Ev Go.Proofs.YtfccbghmagohaaaGreat.ChartMath
set_option linter.unusedVariables false
set_option linter.unusedSimpArgs false
theorem rowsOf_get {g : Int → List (List Int)} {d : Nat} (h : ∀ t, (g t).length = d) : ∀ (n : Nat) (t : Int) (j c : Nat), j < n → c < d → (rowsOf g n t)[d * j + c]? = (g (t + j))[c]?
  | 0, t, j, c, hj, _ => by omega
  | n + 1, t, 0, c, _, hc => by
    simp only [rowsOf, Nat.mul_zero, Nat.zero_add]
    rw [List.getElem?_append_left (by rw [h]; exact hc)]
    simp
  | n + 1, t, j + 1, c, hj, hc => by
    simp only [rowsOf]
    rw [List.getElem?_append_right (by rw [h, Nat.mul_add]; omega), h]
    rw [show d * (j + 1) + c - d = d * j + c by rw [Nat.mul_add]; omega]
    rw [rowsOf_get h n (t + 1) j c (by omega) hc]
    congr 2
    omega
theorem spots_get {T S K : Int} (hT : 0 ≤ T) (hS : 0 ≤ S) (hK : 0 ≤ K) {k : Int} (h0 : 0 ≤ k) (h1 : k < lenOf T S K) : (spotsL T S K).getD k.toNat [] = [kindAt T S k, ofAt T S k] := by
  unfold lenOf at h1
  rw [List.getD_eq_getElem?_getD]
  suffices (spotsL T S K)[k.toNat]? = some [kindAt T S k, ofAt T S k] by rw [this]; rfl
  have g3 : ∀ n t, (rowsOf (fun t => [[3, t]]) n t).length = 1 * n := rowsOf_length (fun _ => rfl)
  have g4 : ∀ n t, (rowsOf (fun t => [[4, t], [5, t], [6, t], [7, t]]) n t).length = 4 * n := rowsOf_length (fun _ => rfl)
  unfold spotsL kindAt ofAt
  by_cases a : k = 0
  · subst a; simp
  by_cases b : k = 1
  · subst b; simp
  rw [if_neg a, if_neg b, if_neg (show ¬ k < 2 by omega)]
  by_cases c : k < 2 + T
  · rw [if_pos c, if_pos c]
    rw [List.getElem?_append_left (by simp [g3, g4]; omega), List.getElem?_append_left (by simp [g3]; omega), List.getElem?_append_right (by simp; omega)]
    have := rowsOf_get (g := fun t => [[3, t]]) (d := 1) (fun _ => rfl) T.toNat 0 (k.toNat - 2) 0 (by omega) (by omega)
    rw [show k.toNat - [[(1 : Int), 0], [2, 0]].length = 1 * (k.toNat - 2) + 0 by simp, this]
    simp
    omega
  rw [if_neg c, if_neg c]
  by_cases d : k < 2 + T + 4 * S
  · rw [if_pos d, if_pos d]
    rw [List.getElem?_append_left (by simp [g3, g4]; omega), List.getElem?_append_right (by simp [g3]; omega)]
    have hq : k.toNat - (2 + T.toNat) = 4 * ((k.toNat - (2 + T.toNat)) / 4) + (k.toNat - (2 + T.toNat)) % 4 := by omega
    have := rowsOf_get (g := fun t => [[4, t], [5, t], [6, t], [7, t]]) (d := 4) (fun _ => rfl) S.toNat 0 ((k.toNat - (2 + T.toNat)) / 4) ((k.toNat - (2 + T.toNat)) % 4) (by omega) (by omega)
    rw [List.length_append, g3, show k.toNat - ([[(1 : Int), 0], [2, 0]].length + 1 * T.toNat) = k.toNat - (2 + T.toNat) by simp, hq, this]
    have e1 : (k - 2 - T) / 4 = (((k.toNat - (2 + T.toNat)) / 4 : Nat) : Int) := by omega
    have e2 : (k - 2 - T) % 4 = (((k.toNat - (2 + T.toNat)) % 4 : Nat) : Int) := by omega
    rw [e1, e2]
    have h4 : (k.toNat - (2 + T.toNat)) % 4 < 4 := Nat.mod_lt _ (by omega)
    generalize (k.toNat - (2 + T.toNat)) % 4 = m at h4
    generalize (((k.toNat - (2 + T.toNat)) / 4 : Nat) : Int) = q
    rcases (by omega : m = 0 ∨ m = 1 ∨ m = 2 ∨ m = 3) with rfl | rfl | rfl | rfl <;> simp
  · rw [if_neg d, if_neg d]
    rw [List.getElem?_append_right (by simp [g3, g4]; omega)]
    have := rowsOf_get (g := fun t => [[8, t]]) (d := 1) (fun _ => rfl) K.toNat 0 (k.toNat - (2 + T.toNat + 4 * S.toNat)) 0 (by omega) (by omega)
    rw [List.length_append, List.length_append, g3, g4, show k.toNat - ([[(1 : Int), 0], [2, 0]].length + 1 * T.toNat + 4 * S.toNat) = 1 * (k.toNat - (2 + T.toNat + 4 * S.toNat)) + 0 by simp, this]
    simp
    omega
/-- Where a spot is found, from one on. -/
def posS (kind o : Int) (rs : List (List Int)) : Nat → Int → Int
  | 0, _ => -1
  | n + 1, k => if (rs.getD k.toNat []).getD 0 0 = kind ∧ (rs.getD k.toNat []).getD 1 0 = o then k else posS kind o rs n (k + 1)
theorem pos_is {T S K kind o : Int} (hT : 1 ≤ T) (hS : 1 ≤ S) (hK : 1 ≤ K) : ∀ (n : Nat) (k : Int), 0 ≤ k → k + n = lenOf T S K → (∀ j, 0 ≤ j → j < k → j ≠ cellOf T S K kind o) → posS kind o (spotsL T S K) n k = cellOf T S K kind o
  | 0, k, h0, hk, hn => by
    unfold posS
    have := cell_low (K := K) (kind := kind) (of := o) (show (0 : Int) ≤ T by omega) (show (0 : Int) ≤ S by omega)
    rcases Int.lt_or_le (cellOf T S K kind o) 0 with h | h
    · omega
    · have := (at_cell (by omega) (by omega) (by omega) h).1
      exact absurd rfl (hn _ h (by omega))
  | n + 1, k, h0, hk, hn => by
    unfold posS
    rw [spots_get (by omega) (by omega) (by omega) h0 (by omega)]
    have e0 : ([kindAt T S k, ofAt T S k] : List Int).getD 0 0 = kindAt T S k := rfl
    have e1 : ([kindAt T S k, ofAt T S k] : List Int).getD 1 0 = ofAt T S k := rfl
    rw [e0, e1]
    split
    · rename_i h
      rw [← h.1, ← h.2, cell_at h0 (by omega)]
    · rename_i h
      refine pos_is hT hS hK n (k + 1) (by omega) (by omega) (fun j j0 j1 => ?_)
      by_cases e : j = k
      · subst e
        intro hc
        apply h
        have := at_cell (T := T) (S := S) (K := K) (kind := kind) (of := o) (by omega) (by omega) (by omega) (by omega)
        rw [← hc] at this
        exact this.2
      · exact hn j j0 (by omega)
def spR : Nat × TypeId × CPat := (0, 50, .recs [.int .i64, .int .i64])
def FC : LForm := ⟨[1, 2, 7, 8], ⟨[(1, .int .i64), (2, .int .i64), (7, .slice 0 0 (some 8192)), (8, .int .i64)], 34, [spR], 1, []⟩, [6], [(0, ⟨[], 34, [], 0, []⟩)], [⟨[(6, .int .i64)], 34, [], 0, []⟩]⟩
theorem c_hit (kind o : Int) (l c : Nat) (k : Int) (rs : List (List Int)) : walk (round sums5 60 49 3 0 FC [.i kind, .i o, .n l, .n c, .i k, .rs rs]) [true, true, true, true, true, true, true, true, true, true, true, true, true] =
    some ([decide (k < (l : Int)), decide (0 ≤ k ∧ k < (l : Int)), decide (0 + k.toNat < rs.length), (rs.getD (0 + k.toNat) []).getD 0 0 == kind, true, true, decide (0 ≤ k ∧ k < (l : Int)), true, true, decide (0 + k.toNat < rs.length), true, true, bif true then (rs.getD (0 + k.toNat) []).getD (0 + 1) 0 == o else false], (.ret, [.i k])) := by kernel_rfl
theorem c_of (kind o : Int) (l c : Nat) (k : Int) (rs : List (List Int)) : walk (round sums5 60 49 3 0 FC [.i kind, .i o, .n l, .n c, .i k, .rs rs]) [true, true, true, true, true, true, true, true, true, true, true, true, false] =
    some ([decide (k < (l : Int)), decide (0 ≤ k ∧ k < (l : Int)), decide (0 + k.toNat < rs.length), (rs.getD (0 + k.toNat) []).getD 0 0 == kind, true, true, decide (0 ≤ k ∧ k < (l : Int)), true, true, decide (0 + k.toNat < rs.length), true, true, bif true then (rs.getD (0 + k.toNat) []).getD (0 + 1) 0 == o else false], (.normal, [.i kind, .i o, .n l, .n c, .i (IntKind.i64.wrap (k + 1)), .rs rs])) := by kernel_rfl
theorem c_kind (kind o : Int) (l c : Nat) (k : Int) (rs : List (List Int)) : walk (round sums5 60 49 3 0 FC [.i kind, .i o, .n l, .n c, .i k, .rs rs]) [true, true, true, false, false, false, false, false, false, false, false, false] =
    some ([decide (k < (l : Int)), decide (0 ≤ k ∧ k < (l : Int)), decide (0 + k.toNat < rs.length), (rs.getD (0 + k.toNat) []).getD 0 0 == kind, false, false, false, false, false, false, false, false], (.normal, [.i kind, .i o, .n l, .n c, .i (IntKind.i64.wrap (k + 1)), .rs rs])) := by kernel_rfl
theorem c_end (kind o : Int) (l c : Nat) (k : Int) (rs : List (List Int)) : walk (round sums5 60 49 3 0 FC [.i kind, .i o, .n l, .n c, .i k, .rs rs]) [false] = some ([decide (k < (l : Int))], (.exit 0, [])) := by kernel_rfl
def c_I : List Atom → Prop
  | [.i kind, .i o, .n l, .n c, .i k, .rs rs] => rs.length = l ∧ 0 ≤ k ∧ l ≤ 100000
  | _ => False
def c_out : List Atom → Tree (Ex × List Atom)
  | [.i kind, .i o, .n l, .n c, .i k, .rs rs] => .br (decide (0 ≤ posS kind o rs ((l : Int) - k).toNat k)) (.leaf (.ret, [.i (posS kind o rs ((l : Int) - k).toNat k)])) (.leaf (.exit 0, []))
  | _ => .bad
def c_m : List Atom → Nat
  | [.i kind, .i o, .n l, .n c, .i k, .rs rs] => ((l : Int) - k).toNat
  | _ => 0
theorem c_step (x : List Atom) (hI : c_I x) : ∃ e y, (round sums5 60 49 3 0 FC x).get = some (e, y) ∧ (e = .normal → c_I y ∧ c_m y < c_m x ∧ (c_out y).get = (c_out x).get) ∧ (e ≠ .normal → (c_out x).get = some (e, y)) := by
  unfold c_I at hI
  split at hI
  · rename_i kind o l c k rs
    obtain ⟨hl, h0, hb⟩ := hI
    by_cases hk : k < (l : Int)
    · have h1 : 0 ≤ k ∧ k < (l : Int) := ⟨h0, hk⟩
      have h2 : k.toNat < rs.length := by omega
      have hw : IntKind.i64.wrap (k + 1) = k + 1 := by rw [IntKind.wrap_i64]; omega
      have hn : ((l : Int) - k).toNat = ((l : Int) - (k + 1)).toNat + 1 := by omega
      have next : ¬ ((rs.getD k.toNat []).getD 0 0 = kind ∧ (rs.getD k.toNat []).getD 1 0 = o) → c_I [.i kind, .i o, .n l, .n c, .i (IntKind.i64.wrap (k + 1)), .rs rs] ∧ c_m [.i kind, .i o, .n l, .n c, .i (IntKind.i64.wrap (k + 1)), .rs rs] < c_m [.i kind, .i o, .n l, .n c, .i k, .rs rs] ∧
          (c_out [.i kind, .i o, .n l, .n c, .i (IntKind.i64.wrap (k + 1)), .rs rs]).get = (c_out [.i kind, .i o, .n l, .n c, .i k, .rs rs]).get := by
        intro hne
        rw [hw]
        refine ⟨⟨hl, by omega, hb⟩, by show ((l : Int) - (k + 1)).toNat < ((l : Int) - k).toNat; omega, ?_⟩
        simp only [c_out, hn, posS, if_neg hne]
      by_cases hkind : (rs.getD k.toNat []).getD 0 0 = kind
      · by_cases ho : (rs.getD k.toNat []).getD 1 0 = o
        · refine ⟨_, _, get_walk (c_hit kind o l c k rs) ?_, fun h => (by cases h), fun _ => ?_⟩
          · simp only [decide_eq_true hk, decide_eq_true h1, decide_eq_true h2, Nat.zero_add, hkind, ho, beq_self_eq_true, cond_true]
          · have hp : posS kind o rs ((l : Int) - k).toNat k = k := by rw [hn]; unfold posS; rw [if_pos ⟨hkind, ho⟩]
            simp only [c_out, hp, Tree.get_br, decide_eq_true h0, if_true, Tree.get_leaf]
        · refine ⟨_, _, get_walk (c_of kind o l c k rs) ?_, fun _ => next (fun h => ho h.2), fun h => absurd rfl h⟩
          have ho' : ((rs.getD k.toNat []).getD 1 0 == o) = false := by simpa using ho
          simp only [decide_eq_true hk, decide_eq_true h1, decide_eq_true h2, Nat.zero_add, hkind, ho', beq_self_eq_true, cond_true]
      · refine ⟨_, _, get_walk (c_kind kind o l c k rs) ?_, fun _ => next (fun h => hkind h.1), fun h => absurd rfl h⟩
        have hk' : ((rs.getD k.toNat []).getD 0 0 == kind) = false := by simpa using hkind
        simp only [decide_eq_true hk, decide_eq_true h1, decide_eq_true h2, Nat.zero_add, hk']
    · refine ⟨_, _, get_walk (c_end kind o l c k rs) (by rw [decide_eq_false hk]), fun h => (by cases h), fun _ => ?_⟩
      have hn : ((l : Int) - k).toNat = 0 := by omega
      simp only [c_out, hn, posS, Tree.get_br]
      rfl
  · exact hI.elim
theorem bodyC_is : bodyOf 49 = some ((bodyOf 49).getD .skip) := by kernel_rfl
noncomputable def cl_sums : Sums := withLoop sums5 49 3 (lsum 0 FC c_I c_out)
theorem cl_ok : SumsOk cl_sums := loop_sum sums5_ok c_m bodyC_is (by kernel_rfl) (by decide) c_step
end Go.Proofs.YtfccbghmagohaaaGreat.Bound
