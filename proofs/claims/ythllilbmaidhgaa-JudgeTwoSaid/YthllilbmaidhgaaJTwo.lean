/- Whether a number is in a row: by the document, and by the program. No condition. -/
import Derived.Test.YthllilbmaidhgaaEvC
namespace Go.Proofs.Ythllilbmaidhgaa.Bound
open Go.Proofs.Ythllilbmaidhgaa.Ev
set_option linter.unusedVariables false
set_option linter.unusedSimpArgs false
def jB1 : List (Nat × TypeId × CPat) := [(0, winT, .ints .i64)]
def FIn : LForm := ⟨[0, 1, 5], ⟨[(0, .slice 0 0 none), (1, .int .i64), (5, .int .i64)], 18, jB1, 1, []⟩, [4], [(0, ⟨[], 18, jB1, 1, []⟩)], [⟨[(4, .bool)], 18, jB1, 1, []⟩]⟩
def FIx : LForm := ⟨[0, 1, 7, 8], ⟨[(0, .slice 0 0 none), (1, .int .i64), (7, .int .i64), (8, .int .i64)], 19, jB1, 1, []⟩, [4], [(0, ⟨[], 19, jB1, 1, []⟩)], [⟨[(4, .int .i64)], 19, jB1, 1, []⟩]⟩
theorem in_way_1 (l c : Nat) (x k : Int) (ws : List Int) : walk (round noSums 60 42 2 1 FIn [.n l, .n c, .i x, .i k, .ws ws]) [true, true, true, true] =
    some ([decide (k < (↑l : Int)), decide ((0 : Int) ≤ k ∧ k < (↑l : Int)), decide (((0 : Nat) + k.toNat * 1) < ws.length), ws.getD (((0 : Nat) + k.toNat * 1)) (0 : Int) == x], (.ret, [.b true, .ws (ws)])) := by kernel_rfl
theorem in_way_2 (l c : Nat) (x k : Int) (ws : List Int) : walk (round noSums 60 42 2 1 FIn [.n l, .n c, .i x, .i k, .ws ws]) [true, true, true, false] =
    some ([decide (k < (↑l : Int)), decide ((0 : Int) ≤ k ∧ k < (↑l : Int)), decide (((0 : Nat) + k.toNat * 1) < ws.length), ws.getD (((0 : Nat) + k.toNat * 1)) (0 : Int) == x], (.normal, [.n (l), .n (c), .i (x), .i (IntKind.i64.wrap (k + (1 : Int))), .ws (ws)])) := by kernel_rfl
theorem in_way_3 (l c : Nat) (x k : Int) (ws : List Int) : walk (round noSums 60 42 2 1 FIn [.n l, .n c, .i x, .i k, .ws ws]) [false] =
    some ([decide (k < (↑l : Int))], (.exit 0, [.ws (ws)])) := by kernel_rfl
theorem drop_has {ws : List Int} {k : Int} (h0 : 0 ≤ k) (h : k.toNat < ws.length) : ws.drop k.toNat = ws.getD k.toNat 0 :: ws.drop (k + 1).toNat := by
  have e : (k + 1).toNat = k.toNat + 1 := by omega
  rw [e, List.drop_eq_getElem_cons h, List.getD_eq_getElem?_getD, List.getElem?_eq_getElem h]
  rfl
theorem drop_end {ws : List Int} {k : Int} (h : (ws.length : Int) ≤ k) : ws.drop k.toNat = [] := List.drop_eq_nil_iff.2 (by omega)
def in_I : List Atom → Prop
  | [.n l, .n c, .i x, .i k, .ws ws] => ws.length = l ∧ 0 ≤ k ∧ l ≤ maxLen
  | _ => False
def in_out : List Atom → Tree (Ex × List Atom)
  | [.n l, .n c, .i x, .i k, .ws ws] => .br ((ws.drop k.toNat).contains x) (.leaf (.ret, [.b true, .ws ws])) (.leaf (.exit 0, [.ws ws]))
  | _ => .bad
def in_m : List Atom → Nat
  | [.n l, .n c, .i x, .i k, .ws ws] => ((l : Int) - k).toNat
  | _ => 0
theorem in_step (x : List Atom) (hI : in_I x) : ∃ e y, (round noSums 60 42 2 1 FIn x).get = some (e, y) ∧ (e = .normal → in_I y ∧ in_m y < in_m x ∧ (in_out y).get = (in_out x).get) ∧ (e ≠ .normal → (in_out x).get = some (e, y)) := by
  unfold in_I at hI
  split at hI
  · rename_i l c x k ws
    obtain ⟨hl, h0, hb⟩ := hI
    unfold maxLen at hb
    by_cases hk : k < (l : Int)
    · have h1 : 0 ≤ k ∧ k < (l : Int) := ⟨h0, hk⟩
      have h2 : k.toNat < ws.length := by omega
      have hw : IntKind.i64.wrap (k + 1) = k + 1 := by rw [IntKind.wrap_i64]; omega
      have hd := drop_has h0 h2
      by_cases he : ws.getD k.toNat 0 = x
      · refine ⟨_, _, get_walk (in_way_1 l c x k ws) ?_, fun h => (by cases h), fun _ => ?_⟩
        · simp only [Nat.zero_add, Nat.mul_one, decide_eq_true hk, decide_eq_true h1, decide_eq_true h2, he, beq_self_eq_true]
        · simp only [in_out, hd, he, List.contains_cons, beq_self_eq_true, Bool.true_or, Tree.get_br, if_true, Tree.get_leaf]
      · have he' : (ws.getD k.toNat 0 == x) = false := by rw [beq_eq_false_iff_ne]; exact he
        have he2 : (x == ws.getD k.toNat 0) = false := by rw [beq_eq_false_iff_ne]; exact fun h => he h.symm
        refine ⟨_, _, get_walk (in_way_2 l c x k ws) ?_, fun _ => ?_, fun h => absurd rfl h⟩
        · simp only [Nat.zero_add, Nat.mul_one, decide_eq_true hk, decide_eq_true h1, decide_eq_true h2, he']
        · rw [hw]
          refine ⟨⟨hl, by omega, by unfold maxLen; omega⟩, by show ((l : Int) - (k + 1)).toNat < ((l : Int) - k).toNat; omega, ?_⟩
          simp only [in_out, hd, List.contains_cons, he2, Bool.false_or]
    · refine ⟨_, _, get_walk (in_way_3 l c x k ws) (by rw [decide_eq_false hk]), fun h => (by cases h), fun _ => ?_⟩
      simp only [in_out, drop_end (ws := ws) (k := k) (by omega), List.contains_nil, Tree.get_br, Bool.false_eq_true, if_false, Tree.get_leaf]
  · exact hI.elim
theorem bodyIn_is : bodyOf 42 = some ((bodyOf 42).getD .skip) := by kernel_rfl
noncomputable def sumsIn : Sums := withLoop noSums 42 2 (lsum 1 FIn in_I in_out)
theorem sumsIn_ok : SumsOk sumsIn := loop_sum noSums_ok in_m bodyIn_is (by kernel_rfl) (by decide) in_step
theorem ix_way_1 (l c : Nat) (x len k : Int) (ws : List Int) : walk (round sumsIn 60 59 2 1 FIx [.n l, .n c, .i x, .i len, .i k, .ws ws]) [true, true, true, true] =
    some ([decide (k < len), decide ((0 : Int) ≤ k ∧ k < (↑l : Int)), decide (((0 : Nat) + k.toNat * 1) < ws.length), x == ws.getD (((0 : Nat) + k.toNat * 1)) (0 : Int)], (.ret, [.i (k), .ws (ws)])) := by kernel_rfl
theorem ix_way_2 (l c : Nat) (x len k : Int) (ws : List Int) : walk (round sumsIn 60 59 2 1 FIx [.n l, .n c, .i x, .i len, .i k, .ws ws]) [true, true, true, false] =
    some ([decide (k < len), decide ((0 : Int) ≤ k ∧ k < (↑l : Int)), decide (((0 : Nat) + k.toNat * 1) < ws.length), x == ws.getD (((0 : Nat) + k.toNat * 1)) (0 : Int)], (.normal, [.n (l), .n (c), .i (x), .i (len), .i (IntKind.i64.wrap (k + (1 : Int))), .ws (ws)])) := by kernel_rfl
theorem ix_way_3 (l c : Nat) (x len k : Int) (ws : List Int) : walk (round sumsIn 60 59 2 1 FIx [.n l, .n c, .i x, .i len, .i k, .ws ws]) [false] =
    some ([decide (k < len)], (.exit 0, [.ws (ws)])) := by kernel_rfl
def ix_I : List Atom → Prop
  | [.n l, .n c, .i x, .i len, .i k, .ws ws] => ws.length = l ∧ len = l ∧ 0 ≤ k ∧ l ≤ maxLen
  | _ => False
def ix_out : List Atom → Tree (Ex × List Atom)
  | [.n l, .n c, .i x, .i len, .i k, .ws ws] => .br ((ws.drop k.toNat).contains x) (.leaf (.ret, [.i (k + ((ws.drop k.toNat).idxOf x : Nat)), .ws ws])) (.leaf (.exit 0, [.ws ws]))
  | _ => .bad
def ix_m : List Atom → Nat
  | [.n l, .n c, .i x, .i len, .i k, .ws ws] => ((l : Int) - k).toNat
  | _ => 0
theorem ix_step (x : List Atom) (hI : ix_I x) : ∃ e y, (round sumsIn 60 59 2 1 FIx x).get = some (e, y) ∧ (e = .normal → ix_I y ∧ ix_m y < ix_m x ∧ (ix_out y).get = (ix_out x).get) ∧ (e ≠ .normal → (ix_out x).get = some (e, y)) := by
  unfold ix_I at hI
  split at hI
  · rename_i l c x len k ws
    obtain ⟨hl, rfl, h0, hb⟩ := hI
    unfold maxLen at hb
    by_cases hk : k < (l : Int)
    · have h1 : 0 ≤ k ∧ k < (l : Int) := ⟨h0, hk⟩
      have h2 : k.toNat < ws.length := by omega
      have hw : IntKind.i64.wrap (k + 1) = k + 1 := by rw [IntKind.wrap_i64]; omega
      have hd := drop_has h0 h2
      by_cases he : ws.getD k.toNat 0 = x
      · refine ⟨_, _, get_walk (ix_way_1 l c x l k ws) ?_, fun h => (by cases h), fun _ => ?_⟩
        · simp only [Nat.zero_add, Nat.mul_one, decide_eq_true hk, decide_eq_true h1, decide_eq_true h2, he, beq_self_eq_true]
        · simp only [ix_out, hd, he, List.contains_cons, beq_self_eq_true, Bool.true_or, Tree.get_br, if_true, Tree.get_leaf, List.idxOf_cons_self, Int.natCast_zero, Int.add_zero]
      · have he' : (ws.getD k.toNat 0 == x) = false := by rw [beq_eq_false_iff_ne]; exact he
        have he2 : (x == ws.getD k.toNat 0) = false := by rw [beq_eq_false_iff_ne]; exact fun h => he h.symm
        refine ⟨_, _, get_walk (ix_way_2 l c x l k ws) ?_, fun _ => ?_, fun h => absurd rfl h⟩
        · simp only [Nat.zero_add, Nat.mul_one, decide_eq_true hk, decide_eq_true h1, decide_eq_true h2, he2]
        · rw [hw]
          refine ⟨⟨hl, rfl, by omega, by unfold maxLen; omega⟩, by show ((l : Int) - (k + 1)).toNat < ((l : Int) - k).toNat; omega, ?_⟩
          have ei : (ws.getD k.toNat 0 :: ws.drop (k + 1).toNat).idxOf x = (ws.drop (k + 1).toNat).idxOf x + 1 := by rw [List.idxOf_cons, show (ws.getD k.toNat 0 == x) = false from he', cond_false]
          simp only [ix_out, hd, List.contains_cons, he2, Bool.false_or, ei]
          rw [show k + (((ws.drop (k + 1).toNat).idxOf x + 1 : Nat) : Int) = k + 1 + ((ws.drop (k + 1).toNat).idxOf x : Nat) by omega]
    · refine ⟨_, _, get_walk (ix_way_3 l c x l k ws) (by rw [decide_eq_false hk]), fun h => (by cases h), fun _ => ?_⟩
      simp only [ix_out, drop_end (ws := ws) (k := k) (by omega), List.contains_nil, Tree.get_br, Bool.false_eq_true, if_false, Tree.get_leaf]
  · exact hI.elim
theorem bodyIx_is : bodyOf 59 = some ((bodyOf 59).getD .skip) := by kernel_rfl
noncomputable def sumsJ0 : Sums := withLoop sumsIn 59 2 (lsum 1 FIx ix_I ix_out)
theorem sumsJ0_ok : SumsOk sumsJ0 := loop_sum sumsIn_ok ix_m bodyIx_is (by kernel_rfl) (by decide) ix_step
/-- Whether a number is in a row, and where: the forms. -/
def HasF : FForm := ⟨[.slice 0 0 none, .int .i64], jB1, [⟨[(0, .bool)], 1, jB1, 1, []⟩]⟩
def IxF : FForm := ⟨[.slice 0 0 none, .int .i64], jB1, [⟨[(0, .int .i64)], 1, jB1, 1, []⟩]⟩
theorem if_way_1 (l c : Nat) (x : Int) (ws : List Int) : walk (endF (ev sumsJ0 60 59) IxF [.n l, .n c, .i x, .ws ws]) [true, true] =
    some ([cdec (ix_I ([Atom.n l, Atom.n c] ++ ([Atom.i x] ++ ([Atom.i (l : Int)] ++ ([Atom.i (0 : Int)] ++ []))) ++ ([Atom.ws ws] ++ []))), (List.drop (Int.toNat (0 : Int)) ws).contains x], (0, [.i (0 + ((ws.drop (Int.toNat 0)).idxOf x : Nat)), .ws (ws)])) := by kernel_rfl
theorem if_way_2 (l c : Nat) (x : Int) (ws : List Int) : walk (endF (ev sumsJ0 60 59) IxF [.n l, .n c, .i x, .ws ws]) [true, false] =
    some ([cdec (ix_I ([Atom.n l, Atom.n c] ++ ([Atom.i x] ++ ([Atom.i (l : Int)] ++ ([Atom.i (0 : Int)] ++ []))) ++ ([Atom.ws ws] ++ []))), (List.drop (Int.toNat (0 : Int)) ws).contains x], (0, [.i (-1), .ws (ws)])) := by kernel_rfl
theorem hf_way_1 (l c : Nat) (x : Int) (ws : List Int) : walk (endF (ev sumsJ0 60 42) HasF [.n l, .n c, .i x, .ws ws]) [true, true] =
    some ([cdec (in_I ([Atom.n l, Atom.n c] ++ ([Atom.i x] ++ ([Atom.i (0 : Int)] ++ [])) ++ ([Atom.ws ws] ++ []))), (List.drop (Int.toNat (0 : Int)) ws).contains x], (0, [.b true, .ws (ws)])) := by kernel_rfl
theorem hf_way_2 (l c : Nat) (x : Int) (ws : List Int) : walk (endF (ev sumsJ0 60 42) HasF [.n l, .n c, .i x, .ws ws]) [true, false] =
    some ([cdec (in_I ([Atom.n l, Atom.n c] ++ ([Atom.i x] ++ ([Atom.i (0 : Int)] ++ [])) ++ ([Atom.ws ws] ++ []))), (List.drop (Int.toNat (0 : Int)) ws).contains x], (0, [.b false, .ws (ws)])) := by kernel_rfl
def has_I : List Atom → Prop
  | [.n l, .n c, .i x, .ws ws] => ws.length = l ∧ l ≤ maxLen
  | _ => False
def hasR_out : List Atom → Tree (Nat × List Atom)
  | [.n l, .n c, .i x, .ws ws] => .leaf (0, [.b (ws.contains x), .ws ws])
  | _ => .bad
def ixf_out : List Atom → Tree (Nat × List Atom)
  | [.n l, .n c, .i x, .ws ws] => .leaf (0, [.i (if ws.contains x then (ws.idxOf x : Nat) else -1), .ws ws])
  | _ => .bad
theorem hasR_step (x : List Atom) (h : has_I x) : ∃ r, (endF (ev sumsJ0 60 42) HasF x).get = some r ∧ (hasR_out x).get = some r := by
  unfold has_I at h
  split at h
  · rename_i l c x ws
    have hI : cdec (in_I ([Atom.n l, Atom.n c] ++ ([Atom.i x] ++ ([Atom.i (0 : Int)] ++ [])) ++ ([Atom.ws ws] ++ []))) = true := cdec_true ⟨h.1, Int.le_refl _, h.2⟩
    cases hc : ws.contains x with
    | true => exact ⟨_, get_walk (hf_way_1 l c x ws) (by rw [hI, Int.toNat_zero, List.drop_zero, hc]), by simp only [hasR_out, hc, Tree.get_leaf]⟩
    | false => exact ⟨_, get_walk (hf_way_2 l c x ws) (by rw [hI, Int.toNat_zero, List.drop_zero, hc]), by simp only [hasR_out, hc, Tree.get_leaf]⟩
  · exact h.elim
theorem ixf_step (x : List Atom) (h : has_I x) : ∃ r, (endF (ev sumsJ0 60 59) IxF x).get = some r ∧ (ixf_out x).get = some r := by
  unfold has_I at h
  split at h
  · rename_i l c x ws
    have hI : cdec (ix_I ([Atom.n l, Atom.n c] ++ ([Atom.i x] ++ ([Atom.i (l : Int)] ++ ([Atom.i (0 : Int)] ++ []))) ++ ([Atom.ws ws] ++ []))) = true := cdec_true ⟨h.1, rfl, Int.le_refl _, h.2⟩
    cases hc : ws.contains x with
    | true => exact ⟨_, get_walk (if_way_1 l c x ws) (by rw [hI, Int.toNat_zero, List.drop_zero, hc]), by simp only [ixf_out, hc, Tree.get_leaf, if_true, Int.toNat_zero, List.drop_zero, Int.zero_add]⟩
    | false => exact ⟨_, get_walk (if_way_2 l c x ws) (by rw [hI, Int.toNat_zero, List.drop_zero, hc]), by simp only [ixf_out, hc, Tree.get_leaf, Bool.false_eq_true, if_false]⟩
  · exact h.elim
noncomputable def sumsJ1 : Sums := withForm (withForm noSums 42 HasF has_I hasR_out) 59 IxF has_I ixf_out
theorem sumsJ1_ok : SumsOk sumsJ1 := withForm_ok (withForm_ok noSums_ok sumsJ0_ok 60 (by kernel_rfl) hasR_step) sumsJ0_ok 60 (by kernel_rfl) ixf_step
end Go.Proofs.Ythllilbmaidhgaa.Bound
