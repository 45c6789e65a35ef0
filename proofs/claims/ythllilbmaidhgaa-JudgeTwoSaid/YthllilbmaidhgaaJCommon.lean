/- Whether two rows have a number both: by the program, and by the document. No condition. -/
import Derived.Test.YthllilbmaidhgaaJTwo
import Derived.Test.YthllilbmaidhgaaJAlive
namespace Go.Proofs.Ythllilbmaidhgaa.Bound
open Go.Proofs.Ythllilbmaidhgaa.Ev
set_option linter.unusedVariables false
set_option linter.unusedSimpArgs false
def cBW : List (Nat × TypeId × CPat) := [(0, winT, .ints .i64), (1, 32, .vals [.slice 2 0 none]), (2, winT, .ints .i64)]
def cBN : List (Nat × TypeId × CPat) := [(0, winT, .ints .i64), (1, 32, .vals [.nilSlice])]
def rBW : List (Nat × TypeId × CPat) := [(0, winT, .ints .i64), (1, winT, .ints .i64)]
def CWW : LForm := ⟨[0, 1, 7, 8], ⟨[(0, .slice 0 0 none), (1, .func 54 [] [.ptr 1 0 none]), (7, .int .i64), (8, .int .i64)], 19, cBW, 3, []⟩, [4], [(0, ⟨[], 19, cBW, 3, []⟩)], [⟨[(4, .int .i64)], 19, cBW, 3, []⟩]⟩
def CWN : LForm := ⟨[0, 1, 7, 8], ⟨[(0, .slice 0 0 none), (1, .func 54 [] [.ptr 1 0 none]), (7, .int .i64), (8, .int .i64)], 19, cBN, 2, []⟩, [4], [(0, ⟨[], 19, cBN, 2, []⟩)], [⟨[(4, .int .i64)], 19, cBN, 2, []⟩]⟩
def RWW : LForm := ⟨[0, 1, 5], ⟨[(0, .slice 0 0 none), (1, .slice 1 0 none), (5, .int .i64)], 18, rBW, 2, []⟩, [4], [(0, ⟨[], 18, rBW, 2, []⟩)], [⟨[(4, .bool)], 18, rBW, 2, []⟩]⟩
def RWN : LForm := ⟨[0, 1, 5], ⟨[(0, .slice 0 0 none), (1, .nilSlice), (5, .int .i64)], 18, jB1, 1, []⟩, [4], [(0, ⟨[], 18, jB1, 1, []⟩)], [⟨[(4, .bool)], 18, jB1, 1, []⟩]⟩
theorem cww_way_1 (l c l' c' : Nat) (len k : Int) (ws vs : List Int) : walk (round sumsJ1 60 68 2 3 CWW [.n l, .n c, .i len, .i k, .ws ws, .n l', .n c', .ws vs]) [true, true, true, true, true] =
    some ([decide (k < len), decide ((0 : Int) ≤ k ∧ k < (↑l : Int)), decide (((0 : Nat) + k.toNat * 1) < ws.length), cdec (has_I ([Atom.n l', Atom.n c'] ++ ([Atom.i (ws.getD (((0 : Nat) + k.toNat * 1)) (0 : Int))] ++ []) ++ ([Atom.ws vs] ++ []))), decide ((if vs.contains (ws.getD (((0 : Nat) + k.toNat * 1)) (0 : Int)) = true then (↑(List.idxOf (ws.getD (((0 : Nat) + k.toNat * 1)) (0 : Int)) vs) : Int) else (-1 : Int)) ≥ (0 : Int))], (.ret, [.i (k), .ws (ws), .n (l'), .n (c'), .ws (vs)])) := by kernel_rfl
theorem cww_way_2 (l c l' c' : Nat) (len k : Int) (ws vs : List Int) : walk (round sumsJ1 60 68 2 3 CWW [.n l, .n c, .i len, .i k, .ws ws, .n l', .n c', .ws vs]) [true, true, true, true, false] =
    some ([decide (k < len), decide ((0 : Int) ≤ k ∧ k < (↑l : Int)), decide (((0 : Nat) + k.toNat * 1) < ws.length), cdec (has_I ([Atom.n l', Atom.n c'] ++ ([Atom.i (ws.getD (((0 : Nat) + k.toNat * 1)) (0 : Int))] ++ []) ++ ([Atom.ws vs] ++ []))), decide ((if vs.contains (ws.getD (((0 : Nat) + k.toNat * 1)) (0 : Int)) = true then (↑(List.idxOf (ws.getD (((0 : Nat) + k.toNat * 1)) (0 : Int)) vs) : Int) else (-1 : Int)) ≥ (0 : Int))], (.normal, [.n (l), .n (c), .i (len), .i (IntKind.i64.wrap (k + (1 : Int))), .ws (ws), .n (l'), .n (c'), .ws (vs)])) := by kernel_rfl
theorem cww_way_3 (l c l' c' : Nat) (len k : Int) (ws vs : List Int) : walk (round sumsJ1 60 68 2 3 CWW [.n l, .n c, .i len, .i k, .ws ws, .n l', .n c', .ws vs]) [false] =
    some ([decide (k < len)], (.exit 0, [.ws (ws), .n (l'), .n (c'), .ws (vs)])) := by kernel_rfl
theorem cwn_way_1 (l c : Nat) (len k : Int) (ws : List Int) : walk (round noSums 60 68 2 2 CWN [.n l, .n c, .i len, .i k, .ws ws]) [true, true, true, false, false] =
    some ([decide (k < len), decide ((0 : Int) ≤ k ∧ k < (↑l : Int)), decide (((0 : Nat) + k.toNat * 1) < ws.length), false, false], (.normal, [.n (l), .n (c), .i (len), .i (IntKind.i64.wrap (k + (1 : Int))), .ws (ws)])) := by kernel_rfl
theorem cwn_way_2 (l c : Nat) (len k : Int) (ws : List Int) : walk (round noSums 60 68 2 2 CWN [.n l, .n c, .i len, .i k, .ws ws]) [false] =
    some ([decide (k < len)], (.exit 0, [.ws (ws)])) := by kernel_rfl
theorem rww_way_1 (l c l' c' : Nat) (k : Int) (ws vs : List Int) : walk (round sumsJ1 60 35 2 2 RWW [.n l, .n c, .n l', .n c', .i k, .ws ws, .ws vs]) [true, true, true, true, true] =
    some ([decide (k < (↑l : Int)), decide ((0 : Int) ≤ k ∧ k < (↑l : Int)), decide (((0 : Nat) + k.toNat * 1) < ws.length), cdec (has_I ([Atom.n l', Atom.n c'] ++ ([Atom.i (ws.getD (((0 : Nat) + k.toNat * 1)) (0 : Int))] ++ []) ++ ([Atom.ws vs] ++ []))), vs.contains (ws.getD (((0 : Nat) + k.toNat * 1)) (0 : Int))], (.ret, [.b true, .ws (ws), .ws (vs)])) := by kernel_rfl
theorem rww_way_2 (l c l' c' : Nat) (k : Int) (ws vs : List Int) : walk (round sumsJ1 60 35 2 2 RWW [.n l, .n c, .n l', .n c', .i k, .ws ws, .ws vs]) [true, true, true, true, false] =
    some ([decide (k < (↑l : Int)), decide ((0 : Int) ≤ k ∧ k < (↑l : Int)), decide (((0 : Nat) + k.toNat * 1) < ws.length), cdec (has_I ([Atom.n l', Atom.n c'] ++ ([Atom.i (ws.getD (((0 : Nat) + k.toNat * 1)) (0 : Int))] ++ []) ++ ([Atom.ws vs] ++ []))), vs.contains (ws.getD (((0 : Nat) + k.toNat * 1)) (0 : Int))], (.normal, [.n (l), .n (c), .n (l'), .n (c'), .i (IntKind.i64.wrap (k + (1 : Int))), .ws (ws), .ws (vs)])) := by kernel_rfl
theorem rww_way_3 (l c l' c' : Nat) (k : Int) (ws vs : List Int) : walk (round sumsJ1 60 35 2 2 RWW [.n l, .n c, .n l', .n c', .i k, .ws ws, .ws vs]) [false] =
    some ([decide (k < (↑l : Int))], (.exit 0, [.ws (ws), .ws (vs)])) := by kernel_rfl
theorem rwn_way_1 (l c : Nat) (k : Int) (ws : List Int) : walk (round noSums 60 35 2 1 RWN [.n l, .n c, .i k, .ws ws]) [true, true, true, false, false] =
    some ([decide (k < (↑l : Int)), decide ((0 : Int) ≤ k ∧ k < (↑l : Int)), decide (((0 : Nat) + k.toNat * 1) < ws.length), false, false], (.normal, [.n (l), .n (c), .i (IntKind.i64.wrap (k + (1 : Int))), .ws (ws)])) := by kernel_rfl
theorem rwn_way_2 (l c : Nat) (k : Int) (ws : List Int) : walk (round noSums 60 35 2 1 RWN [.n l, .n c, .i k, .ws ws]) [false] =
    some ([decide (k < (↑l : Int))], (.exit 0, [.ws (ws)])) := by kernel_rfl
/-- Whether two rows have a number both. -/
def comm (ws vs : List Int) : Bool := ws.any fun x => vs.contains x
theorem has_ge (vs : List Int) (x : Int) : decide ((if vs.contains x = true then ((vs.idxOf x : Nat) : Int) else (-1 : Int)) ≥ (0 : Int)) = vs.contains x := by
  cases h : vs.contains x with
  | true => simp
  | false => simp
def cww_I : List Atom → Prop
  | [.n l, .n c, .i len, .i k, .ws ws, .n l', .n c', .ws vs] => ws.length = l ∧ len = l ∧ 0 ≤ k ∧ l ≤ maxLen ∧ vs.length = l' ∧ l' ≤ maxLen
  | _ => False
def cww_out : List Atom → Tree (Ex × List Atom)
  | [.n l, .n c, .i len, .i k, .ws ws, .n l', .n c', .ws vs] => .br (comm (ws.drop k.toNat) vs) (.leaf (.ret, [.i (k + ((ws.drop k.toNat).findIdx (fun x => vs.contains x) : Nat)), .ws ws, .n l', .n c', .ws vs])) (.leaf (.exit 0, [.ws ws, .n l', .n c', .ws vs]))
  | _ => .bad
def cww_m : List Atom → Nat
  | [.n l, .n c, .i len, .i k, .ws ws, .n l', .n c', .ws vs] => ((l : Int) - k).toNat
  | _ => 0
theorem cww_step (x : List Atom) (hI : cww_I x) : ∃ e y, (round sumsJ1 60 68 2 3 CWW x).get = some (e, y) ∧ (e = .normal → cww_I y ∧ cww_m y < cww_m x ∧ (cww_out y).get = (cww_out x).get) ∧ (e ≠ .normal → (cww_out x).get = some (e, y)) := by
  unfold cww_I at hI
  split at hI
  · rename_i l c len k ws l' c' vs
    obtain ⟨hl, rfl, h0, hb, hl', hb'⟩ := hI
    have hb0 := hb
    unfold maxLen at hb
    by_cases hk : k < (l : Int)
    · have h1 : 0 ≤ k ∧ k < (l : Int) := ⟨h0, hk⟩
      have h2 : k.toNat < ws.length := by omega
      have hw : IntKind.i64.wrap (k + 1) = k + 1 := by rw [IntKind.wrap_i64]; omega
      have hd := drop_has h0 h2
      have hI : ∀ x, cdec (has_I ([Atom.n l', Atom.n c'] ++ ([Atom.i x] ++ []) ++ ([Atom.ws vs] ++ []))) = true := fun x => cdec_true ⟨hl', hb'⟩
      cases he : vs.contains (ws.getD k.toNat 0) with
      | true =>
        refine ⟨_, _, get_walk (cww_way_1 l c l' c' l k ws vs) ?_, fun h => (by cases h), fun _ => ?_⟩
        · simp only [Nat.zero_add, Nat.mul_one, decide_eq_true hk, decide_eq_true h1, decide_eq_true h2, hI]; rw [has_ge, he]
        · simp only [cww_out, comm, hd, List.any_cons, he, Bool.true_or, Tree.get_br, if_true, Tree.get_leaf, List.findIdx_cons, cond_true, Int.natCast_zero, Int.add_zero]
      | false =>
        refine ⟨_, _, get_walk (cww_way_2 l c l' c' l k ws vs) ?_, fun _ => ?_, fun h => absurd rfl h⟩
        · simp only [Nat.zero_add, Nat.mul_one, decide_eq_true hk, decide_eq_true h1, decide_eq_true h2, hI]; rw [has_ge, he]
        · rw [hw]
          refine ⟨⟨hl, rfl, by omega, hb0, hl', hb'⟩, by show ((l : Int) - (k + 1)).toNat < ((l : Int) - k).toNat; omega, ?_⟩
          simp only [cww_out, comm, hd, List.any_cons, he, Bool.false_or, List.findIdx_cons, cond_false]
          rw [show k + (((ws.drop (k + 1).toNat).findIdx (fun x => vs.contains x) + 1 : Nat) : Int) = k + 1 + ((ws.drop (k + 1).toNat).findIdx (fun x => vs.contains x) : Nat) by omega]
    · refine ⟨_, _, get_walk (cww_way_3 l c l' c' l k ws vs) (by rw [decide_eq_false hk]), fun h => (by cases h), fun _ => ?_⟩
      simp only [cww_out, comm, drop_end (ws := ws) (k := k) (by omega), List.any_nil, Tree.get_br, Bool.false_eq_true, if_false, Tree.get_leaf]
  · exact hI.elim
def cwn_I : List Atom → Prop
  | [.n l, .n c, .i len, .i k, .ws ws] => ws.length = l ∧ len = l ∧ 0 ≤ k ∧ l ≤ maxLen
  | _ => False
def cwn_out : List Atom → Tree (Ex × List Atom)
  | [.n l, .n c, .i len, .i k, .ws ws] => .leaf (.exit 0, [.ws ws])
  | _ => .bad
def cwn_m : List Atom → Nat
  | [.n l, .n c, .i len, .i k, .ws ws] => ((l : Int) - k).toNat
  | _ => 0
theorem cwn_step (x : List Atom) (hI : cwn_I x) : ∃ e y, (round noSums 60 68 2 2 CWN x).get = some (e, y) ∧ (e = .normal → cwn_I y ∧ cwn_m y < cwn_m x ∧ (cwn_out y).get = (cwn_out x).get) ∧ (e ≠ .normal → (cwn_out x).get = some (e, y)) := by
  unfold cwn_I at hI
  split at hI
  · rename_i l c len k ws
    obtain ⟨hl, rfl, h0, hb⟩ := hI
    have hb0 := hb
    unfold maxLen at hb
    by_cases hk : k < (l : Int)
    · have h1 : 0 ≤ k ∧ k < (l : Int) := ⟨h0, hk⟩
      have h2 : k.toNat < ws.length := by omega
      have hw : IntKind.i64.wrap (k + 1) = k + 1 := by rw [IntKind.wrap_i64]; omega
      refine ⟨_, _, get_walk (cwn_way_1 l c l k ws) ?_, fun _ => ?_, fun h => absurd rfl h⟩
      · simp only [Nat.zero_add, Nat.mul_one, decide_eq_true hk, decide_eq_true h1, decide_eq_true h2]
      · rw [hw]
        exact ⟨⟨hl, rfl, by omega, hb0⟩, by show ((l : Int) - (k + 1)).toNat < ((l : Int) - k).toNat; omega, rfl⟩
    · exact ⟨_, _, get_walk (cwn_way_2 l c l k ws) (by rw [decide_eq_false hk]), fun h => (by cases h), fun _ => rfl⟩
  · exact hI.elim
def rww_I : List Atom → Prop
  | [.n l, .n c, .n l', .n c', .i k, .ws ws, .ws vs] => ws.length = l ∧ 0 ≤ k ∧ l ≤ maxLen ∧ vs.length = l' ∧ l' ≤ maxLen
  | _ => False
def rww_out : List Atom → Tree (Ex × List Atom)
  | [.n l, .n c, .n l', .n c', .i k, .ws ws, .ws vs] => .br (comm (ws.drop k.toNat) vs) (.leaf (.ret, [.b true, .ws ws, .ws vs])) (.leaf (.exit 0, [.ws ws, .ws vs]))
  | _ => .bad
def rww_m : List Atom → Nat
  | [.n l, .n c, .n l', .n c', .i k, .ws ws, .ws vs] => ((l : Int) - k).toNat
  | _ => 0
theorem rww_step (x : List Atom) (hI : rww_I x) : ∃ e y, (round sumsJ1 60 35 2 2 RWW x).get = some (e, y) ∧ (e = .normal → rww_I y ∧ rww_m y < rww_m x ∧ (rww_out y).get = (rww_out x).get) ∧ (e ≠ .normal → (rww_out x).get = some (e, y)) := by
  unfold rww_I at hI
  split at hI
  · rename_i l c l' c' k ws vs
    obtain ⟨hl, h0, hb, hl', hb'⟩ := hI
    have hb0 := hb
    unfold maxLen at hb
    by_cases hk : k < (l : Int)
    · have h1 : 0 ≤ k ∧ k < (l : Int) := ⟨h0, hk⟩
      have h2 : k.toNat < ws.length := by omega
      have hw : IntKind.i64.wrap (k + 1) = k + 1 := by rw [IntKind.wrap_i64]; omega
      have hd := drop_has h0 h2
      have hI : ∀ x, cdec (has_I ([Atom.n l', Atom.n c'] ++ ([Atom.i x] ++ []) ++ ([Atom.ws vs] ++ []))) = true := fun x => cdec_true ⟨hl', hb'⟩
      cases he : vs.contains (ws.getD k.toNat 0) with
      | true =>
        refine ⟨_, _, get_walk (rww_way_1 l c l' c' k ws vs) ?_, fun h => (by cases h), fun _ => ?_⟩
        · simp only [Nat.zero_add, Nat.mul_one, decide_eq_true hk, decide_eq_true h1, decide_eq_true h2, he, hI]
        · simp only [rww_out, comm, hd, List.any_cons, he, Bool.true_or, Tree.get_br, if_true, Tree.get_leaf]
      | false =>
        refine ⟨_, _, get_walk (rww_way_2 l c l' c' k ws vs) ?_, fun _ => ?_, fun h => absurd rfl h⟩
        · simp only [Nat.zero_add, Nat.mul_one, decide_eq_true hk, decide_eq_true h1, decide_eq_true h2, he, hI]
        · rw [hw]
          refine ⟨⟨hl, by omega, hb0, hl', hb'⟩, by show ((l : Int) - (k + 1)).toNat < ((l : Int) - k).toNat; omega, ?_⟩
          simp only [rww_out, comm, hd, List.any_cons, he, Bool.false_or]
    · refine ⟨_, _, get_walk (rww_way_3 l c l' c' k ws vs) (by rw [decide_eq_false hk]), fun h => (by cases h), fun _ => ?_⟩
      simp only [rww_out, comm, drop_end (ws := ws) (k := k) (by omega), List.any_nil, Tree.get_br, Bool.false_eq_true, if_false, Tree.get_leaf]
  · exact hI.elim
def rwn_I : List Atom → Prop
  | [.n l, .n c, .i k, .ws ws] => ws.length = l ∧ 0 ≤ k ∧ l ≤ maxLen
  | _ => False
def rwn_out : List Atom → Tree (Ex × List Atom)
  | [.n l, .n c, .i k, .ws ws] => .leaf (.exit 0, [.ws ws])
  | _ => .bad
def rwn_m : List Atom → Nat
  | [.n l, .n c, .i k, .ws ws] => ((l : Int) - k).toNat
  | _ => 0
theorem rwn_step (x : List Atom) (hI : rwn_I x) : ∃ e y, (round noSums 60 35 2 1 RWN x).get = some (e, y) ∧ (e = .normal → rwn_I y ∧ rwn_m y < rwn_m x ∧ (rwn_out y).get = (rwn_out x).get) ∧ (e ≠ .normal → (rwn_out x).get = some (e, y)) := by
  unfold rwn_I at hI
  split at hI
  · rename_i l c k ws
    obtain ⟨hl, h0, hb⟩ := hI
    have hb0 := hb
    unfold maxLen at hb
    by_cases hk : k < (l : Int)
    · have h1 : 0 ≤ k ∧ k < (l : Int) := ⟨h0, hk⟩
      have h2 : k.toNat < ws.length := by omega
      have hw : IntKind.i64.wrap (k + 1) = k + 1 := by rw [IntKind.wrap_i64]; omega
      refine ⟨_, _, get_walk (rwn_way_1 l c k ws) ?_, fun _ => ?_, fun h => absurd rfl h⟩
      · simp only [Nat.zero_add, Nat.mul_one, decide_eq_true hk, decide_eq_true h1, decide_eq_true h2]
      · rw [hw]
        exact ⟨⟨hl, by omega, hb0⟩, by show ((l : Int) - (k + 1)).toNat < ((l : Int) - k).toNat; omega, rfl⟩
    · exact ⟨_, _, get_walk (rwn_way_2 l c k ws) (by rw [decide_eq_false hk]), fun h => (by cases h), fun _ => rfl⟩
  · exact hI.elim
theorem bodyIf_is : bodyOf 68 = some ((bodyOf 68).getD .skip) := by kernel_rfl
theorem bodyRc_is : bodyOf 35 = some ((bodyOf 35).getD .skip) := by kernel_rfl
noncomputable def sumsCWW : Sums := withLoop sumsJ1 68 2 (lsum 3 CWW cww_I cww_out)
theorem sumsCWW_ok : SumsOk sumsCWW := loop_sum sumsJ1_ok cww_m bodyIf_is (by kernel_rfl) (by decide) cww_step
noncomputable def sumsCWN : Sums := withLoop noSums 68 2 (lsum 2 CWN cwn_I cwn_out)
theorem sumsCWN_ok : SumsOk sumsCWN := loop_sum noSums_ok cwn_m bodyIf_is (by kernel_rfl) (by decide) cwn_step
noncomputable def sumsRWW : Sums := withLoop sumsJ1 35 2 (lsum 2 RWW rww_I rww_out)
theorem sumsRWW_ok : SumsOk sumsRWW := loop_sum sumsJ1_ok rww_m bodyRc_is (by kernel_rfl) (by decide) rww_step
noncomputable def sumsRWN : Sums := withLoop noSums 35 2 (lsum 1 RWN rwn_I rwn_out)
theorem sumsRWN_ok : SumsOk sumsRWN := loop_sum noSums_ok rwn_m bodyRc_is (by kernel_rfl) (by decide) rwn_step
def IFW : FForm := ⟨[.slice 0 0 none, .func 54 [] [.ptr 1 0 none]], cBW, [⟨[(0, .int .i64)], 1, cBW, 3, []⟩]⟩
def IFN : FForm := ⟨[.slice 0 0 none, .func 54 [] [.ptr 1 0 none]], cBN, [⟨[(0, .int .i64)], 1, cBN, 2, []⟩]⟩
def RFW : FForm := ⟨[.slice 0 0 none, .slice 1 0 none], rBW, [⟨[(0, .bool)], 1, rBW, 2, []⟩]⟩
def RFN : FForm := ⟨[.slice 0 0 none, .nilSlice], jB1, [⟨[(0, .bool)], 1, jB1, 1, []⟩]⟩
theorem ifw_way_1 (l c l' c' : Nat) (ws vs : List Int) : walk (endF (ev sumsCWW 60 68) IFW [.n l, .n c, .ws ws, .n l', .n c', .ws vs]) [true, true] =
    some ([cdec (cww_I ([Atom.n l, Atom.n c] ++ ([] ++ ([] ++ []) ++ ([Atom.i (↑l : Int)] ++ ([Atom.i (0 : Int)] ++ []))) ++ ([Atom.ws ws] ++ ([Atom.n l', Atom.n c'] ++ [] ++ ([Atom.ws vs] ++ []))))), comm (List.drop (Int.toNat (0 : Int)) ws) vs], (0, [.i ((0 : Int) + (↑(List.findIdx (fun x => vs.contains x) (List.drop (Int.toNat (0 : Int)) ws)) : Int)), .ws (ws), .n (l'), .n (c'), .ws (vs)])) := by kernel_rfl
theorem ifw_way_2 (l c l' c' : Nat) (ws vs : List Int) : walk (endF (ev sumsCWW 60 68) IFW [.n l, .n c, .ws ws, .n l', .n c', .ws vs]) [true, false] =
    some ([cdec (cww_I ([Atom.n l, Atom.n c] ++ ([] ++ ([] ++ []) ++ ([Atom.i (↑l : Int)] ++ ([Atom.i (0 : Int)] ++ []))) ++ ([Atom.ws ws] ++ ([Atom.n l', Atom.n c'] ++ [] ++ ([Atom.ws vs] ++ []))))), comm (List.drop (Int.toNat (0 : Int)) ws) vs], (0, [.i ((-1 : Int)), .ws (ws), .n (l'), .n (c'), .ws (vs)])) := by kernel_rfl
theorem ifn_way_1 (l c : Nat) (ws : List Int) : walk (endF (ev sumsCWN 60 68) IFN [.n l, .n c, .ws ws]) [true] =
    some ([cdec (cwn_I ([Atom.n l, Atom.n c] ++ ([] ++ ([] ++ []) ++ ([Atom.i (↑l : Int)] ++ ([Atom.i (0 : Int)] ++ []))) ++ ([Atom.ws ws] ++ ([] ++ [] ++ []))))], (0, [.i ((-1 : Int)), .ws (ws)])) := by kernel_rfl
theorem rfw_way_1 (l c l' c' : Nat) (ws vs : List Int) : walk (endF (ev sumsRWW 60 35) RFW [.n l, .n c, .n l', .n c', .ws ws, .ws vs]) [true, true] =
    some ([cdec (rww_I ([Atom.n l, Atom.n c] ++ ([Atom.n l', Atom.n c'] ++ ([Atom.i (0 : Int)] ++ [])) ++ ([Atom.ws ws] ++ ([Atom.ws vs] ++ [])))), comm (List.drop (Int.toNat (0 : Int)) ws) vs], (0, [.b true, .ws (ws), .ws (vs)])) := by kernel_rfl
theorem rfw_way_2 (l c l' c' : Nat) (ws vs : List Int) : walk (endF (ev sumsRWW 60 35) RFW [.n l, .n c, .n l', .n c', .ws ws, .ws vs]) [true, false] =
    some ([cdec (rww_I ([Atom.n l, Atom.n c] ++ ([Atom.n l', Atom.n c'] ++ ([Atom.i (0 : Int)] ++ [])) ++ ([Atom.ws ws] ++ ([Atom.ws vs] ++ [])))), comm (List.drop (Int.toNat (0 : Int)) ws) vs], (0, [.b false, .ws (ws), .ws (vs)])) := by kernel_rfl
theorem rfn_way_1 (l c : Nat) (ws : List Int) : walk (endF (ev sumsRWN 60 35) RFN [.n l, .n c, .ws ws]) [true] =
    some ([cdec (rwn_I ([Atom.n l, Atom.n c] ++ ([] ++ ([Atom.i (0 : Int)] ++ [])) ++ ([Atom.ws ws] ++ [])))], (0, [.b false, .ws (ws)])) := by kernel_rfl
theorem find_ge (ws vs : List Int) : decide ((if comm ws vs = true then ((ws.findIdx (fun x => vs.contains x) : Nat) : Int) else (-1 : Int)) ≥ (0 : Int)) = comm ws vs := by
  cases h : comm ws vs with
  | true => simp
  | false => simp
def ifw_I : List Atom → Prop
  | [.n l, .n c, .ws ws, .n l', .n c', .ws vs] => ws.length = l ∧ l ≤ maxLen ∧ vs.length = l' ∧ l' ≤ maxLen
  | _ => False
def ifw_out : List Atom → Tree (Nat × List Atom)
  | [.n l, .n c, .ws ws, .n l', .n c', .ws vs] => .leaf (0, [.i (if comm ws vs = true then (ws.findIdx (fun x => vs.contains x) : Nat) else -1), .ws ws, .n l', .n c', .ws vs])
  | _ => .bad
theorem ifw_step (x : List Atom) (h : ifw_I x) : ∃ r, (endF (ev sumsCWW 60 68) IFW x).get = some r ∧ (ifw_out x).get = some r := by
  unfold ifw_I at h
  split at h
  · rename_i l c ws l' c' vs
    have hI : cdec (cww_I ([Atom.n l, Atom.n c] ++ ([] ++ ([] ++ []) ++ ([Atom.i (↑l : Int)] ++ ([Atom.i (0 : Int)] ++ []))) ++ ([Atom.ws ws] ++ ([Atom.n l', Atom.n c'] ++ [] ++ ([Atom.ws vs] ++ []))))) = true := cdec_true ⟨h.1, rfl, Int.le_refl _, h.2.1, h.2.2⟩
    cases hc : comm ws vs with
    | true => exact ⟨_, get_walk (ifw_way_1 l c l' c' ws vs) (by rw [hI, Int.toNat_zero, List.drop_zero, hc]), by simp only [ifw_out, hc, Tree.get_leaf, if_true, Int.toNat_zero, List.drop_zero, Int.zero_add]⟩
    | false => exact ⟨_, get_walk (ifw_way_2 l c l' c' ws vs) (by rw [hI, Int.toNat_zero, List.drop_zero, hc]), by simp only [ifw_out, hc, Tree.get_leaf, Bool.false_eq_true, if_false]⟩
  · exact h.elim
def ifn_I : List Atom → Prop
  | [.n l, .n c, .ws ws] => ws.length = l ∧ l ≤ maxLen
  | _ => False
def ifn_out : List Atom → Tree (Nat × List Atom)
  | [.n l, .n c, .ws ws] => .leaf (0, [.i (-1), .ws ws])
  | _ => .bad
theorem ifn_step (x : List Atom) (h : ifn_I x) : ∃ r, (endF (ev sumsCWN 60 68) IFN x).get = some r ∧ (ifn_out x).get = some r := by
  unfold ifn_I at h
  split at h
  · rename_i l c ws
    have hI : cdec (cwn_I ([Atom.n l, Atom.n c] ++ ([] ++ ([] ++ []) ++ ([Atom.i (↑l : Int)] ++ ([Atom.i (0 : Int)] ++ []))) ++ ([Atom.ws ws] ++ ([] ++ [] ++ [])))) = true := cdec_true ⟨h.1, rfl, Int.le_refl _, h.2⟩
    exact ⟨_, get_walk (ifn_way_1 l c ws) (by rw [hI]), rfl⟩
  · exact h.elim
def rfw_I : List Atom → Prop
  | [.n l, .n c, .n l', .n c', .ws ws, .ws vs] => ws.length = l ∧ l ≤ maxLen ∧ vs.length = l' ∧ l' ≤ maxLen
  | _ => False
def rfw_out : List Atom → Tree (Nat × List Atom)
  | [.n l, .n c, .n l', .n c', .ws ws, .ws vs] => .leaf (0, [.b (comm ws vs), .ws ws, .ws vs])
  | _ => .bad
theorem rfw_step (x : List Atom) (h : rfw_I x) : ∃ r, (endF (ev sumsRWW 60 35) RFW x).get = some r ∧ (rfw_out x).get = some r := by
  unfold rfw_I at h
  split at h
  · rename_i l c l' c' ws vs
    have hI : cdec (rww_I ([Atom.n l, Atom.n c] ++ ([Atom.n l', Atom.n c'] ++ ([Atom.i (0 : Int)] ++ [])) ++ ([Atom.ws ws] ++ ([Atom.ws vs] ++ [])))) = true := cdec_true ⟨h.1, Int.le_refl _, h.2.1, h.2.2⟩
    cases hc : comm ws vs with
    | true => exact ⟨_, get_walk (rfw_way_1 l c l' c' ws vs) (by rw [hI, Int.toNat_zero, List.drop_zero, hc]), by simp only [rfw_out, hc, Tree.get_leaf]⟩
    | false => exact ⟨_, get_walk (rfw_way_2 l c l' c' ws vs) (by rw [hI, Int.toNat_zero, List.drop_zero, hc]), by simp only [rfw_out, hc, Tree.get_leaf]⟩
  · exact h.elim
def rfn_out : List Atom → Tree (Nat × List Atom)
  | [.n l, .n c, .ws ws] => .leaf (0, [.b false, .ws ws])
  | _ => .bad
theorem rfn_step (x : List Atom) (h : ifn_I x) : ∃ r, (endF (ev sumsRWN 60 35) RFN x).get = some r ∧ (rfn_out x).get = some r := by
  unfold ifn_I at h
  split at h
  · rename_i l c ws
    have hI : cdec (rwn_I ([Atom.n l, Atom.n c] ++ ([] ++ ([Atom.i (0 : Int)] ++ [])) ++ ([Atom.ws ws] ++ []))) = true := cdec_true ⟨h.1, Int.le_refl _, h.2⟩
    exact ⟨_, get_walk (rfn_way_1 l c ws) (by rw [hI]), rfl⟩
  · exact h.elim
def nil0 : List Value → TH → Bool
  | .slice none 0 0 :: _, _ => true
  | _, _ => false
noncomputable def ifS : Sum := canon (orSum nil0 (ev noSums 60 68) (orSum (fun args H => (matF IFW args H).isSome) (fsum IFW ifw_I ifw_out) (fsum IFN ifn_I ifn_out)))
noncomputable def rcS : Sum := canon (orSum nil0 (ev noSums 60 35) (orSum (fun args H => (matF RFW args H).isSome) (fsum RFW rfw_I rfw_out) (fsum RFN ifn_I rfn_out)))
theorem ifS_ok : SoundSum Try.prog 68 ifS := canon_ok (orSum_ok (ev_sound noSums_ok 60 _) (orSum_ok (fsum_ok (ev_sound sumsCWW_ok 60 _) ifw_step) (fsum_ok (ev_sound sumsCWN_ok 60 _) ifn_step)))
theorem rcS_ok : SoundSum Try.prog 35 rcS := canon_ok (orSum_ok (ev_sound noSums_ok 60 _) (orSum_ok (fsum_ok (ev_sound sumsRWW_ok 60 _) rfw_step) (fsum_ok (ev_sound sumsRWN_ok 60 _) rfn_step)))
noncomputable def sumsJ2 : Sums := withPure (withCall (withCall noSums 68 ifS) 35 rcS) 8 aliveS
theorem sumsJ2_ok : SumsOk sumsJ2 := aliveS_ok (withCall_ok (withCall_ok noSums_ok ifS_ok (by kernel_rfl)) rcS_ok (by kernel_rfl))
end Go.Proofs.Ythllilbmaidhgaa.Bound
