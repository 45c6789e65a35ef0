/- Whether two rows of words are the same: by the document. No condition. -/
import Derived.Test.YtifojacfedjedaaGreatMemCellsQ
namespace Go.Proofs.YtifojacfedjedaaGreat.Bound
open Go.Proofs.YtifojacfedjedaaGreat.Ev
set_option linter.unusedVariables false
set_option linter.unusedSimpArgs false
def sB : List (Nat × TypeId × CPat) := [(0, 22, .ints .u64), (1, 22, .ints .u64)]
def SL : LForm := ⟨[0, 1, 5], ⟨[(0, .slice 0 0 none), (1, .slice 1 0 none), (5, .int .i64)], 26, sB, 2, []⟩, [4], [(0, ⟨[], 26, sB, 2, []⟩)], [⟨[(4, .bool)], 26, sB, 2, []⟩]⟩
theorem same_way_1 (l c l' c' : Nat) (k : Int) (ws vs : List Int) : walk (round sums9 60 23 4 2 SL [.n l, .n c, .n l', .n c', .i k, .ws ws, .ws vs]) [true, true, true, true, true, true] =
    some ([decide (k < ↑l), decide (0 ≤ k ∧ k < ↑l), decide ((0 + k.toNat * 1) < ws.length), decide (0 ≤ k ∧ k < ↑l'), decide ((0 + k.toNat * 1) < vs.length), ws.getD ((0 + k.toNat * 1)) 0 != vs.getD ((0 + k.toNat * 1)) 0], (.ret, [.b false, .ws (ws), .ws (vs)])) := by kernel_rfl
theorem same_way_2 (l c l' c' : Nat) (k : Int) (ws vs : List Int) : walk (round sums9 60 23 4 2 SL [.n l, .n c, .n l', .n c', .i k, .ws ws, .ws vs]) [true, true, true, true, true, false] =
    some ([decide (k < ↑l), decide (0 ≤ k ∧ k < ↑l), decide ((0 + k.toNat * 1) < ws.length), decide (0 ≤ k ∧ k < ↑l'), decide ((0 + k.toNat * 1) < vs.length), ws.getD ((0 + k.toNat * 1)) 0 != vs.getD ((0 + k.toNat * 1)) 0], (.normal, [.n (l), .n (c), .n (l'), .n (c'), .i (IntKind.i64.wrap (k + 1)), .ws (ws), .ws (vs)])) := by kernel_rfl
theorem same_way_3 (l c l' c' : Nat) (k : Int) (ws vs : List Int) : walk (round sums9 60 23 4 2 SL [.n l, .n c, .n l', .n c', .i k, .ws ws, .ws vs]) [false] =
    some ([decide (k < ↑l)], (.exit 0, [.ws (ws), .ws (vs)])) := by kernel_rfl

def sameF (ws vs : List Int) : Nat → Int → Bool
  | 0, _ => true
  | n + 1, k => ws.getD k.toNat 0 == vs.getD k.toNat 0 && sameF ws vs n (k + 1)
def same_I : List Atom → Prop
  | [.n l, .n c, .n l', .n c', .i k, .ws ws, .ws vs] => ws.length = l ∧ vs.length = l' ∧ l = l' ∧ 0 ≤ k ∧ l ≤ 100000
  | _ => False
def same_out : List Atom → Tree (Ex × List Atom)
  | [.n l, .n c, .n l', .n c', .i k, .ws ws, .ws vs] => .br (sameF ws vs ((l : Int) - k).toNat k) (.leaf (.exit 0, [.ws ws, .ws vs])) (.leaf (.ret, [.b false, .ws ws, .ws vs]))
  | _ => .bad
def same_m : List Atom → Nat
  | [.n l, .n c, .n l', .n c', .i k, .ws ws, .ws vs] => ((l : Int) - k).toNat
  | _ => 0
theorem same_step (x : List Atom) (hI : same_I x) : ∃ e y, (round sums9 60 23 4 2 SL x).get = some (e, y) ∧ (e = .normal → same_I y ∧ same_m y < same_m x ∧ (same_out y).get = (same_out x).get) ∧ (e ≠ .normal → (same_out x).get = some (e, y)) := by
  unfold same_I at hI
  split at hI
  · rename_i l c l' c' k ws vs
    obtain ⟨hl, hv, hll, h0, hb⟩ := hI
    by_cases hk : k < (l : Int)
    · have h1 : 0 ≤ k ∧ k < (l : Int) := ⟨h0, hk⟩
      have h1' : 0 ≤ k ∧ k < (l' : Int) := by omega
      have h2 : k.toNat < ws.length := by omega
      have h3 : k.toNat < vs.length := by omega
      have hw : IntKind.i64.wrap (k + 1) = k + 1 := by rw [IntKind.wrap_i64]; omega
      have hn : ((l : Int) - k).toNat = ((l : Int) - (k + 1)).toNat + 1 := by omega
      by_cases he : ws.getD k.toNat 0 = vs.getD k.toNat 0
      · refine ⟨_, _, get_walk (same_way_2 l c l' c' k ws vs) ?_, fun _ => ?_, fun h => absurd rfl h⟩
        · have he' : (ws.getD k.toNat 0 != vs.getD k.toNat 0) = false := by rw [bne_eq_false_iff_eq]; exact he
          simp only [Nat.zero_add, Nat.mul_one, decide_eq_true hk, decide_eq_true h1, decide_eq_true h1', decide_eq_true h2, decide_eq_true h3, he']
        · rw [hw]
          refine ⟨⟨hl, hv, hll, by omega, hb⟩, by show ((l : Int) - (k + 1)).toNat < ((l : Int) - k).toNat; omega, ?_⟩
          simp only [same_out, hn, sameF, he, beq_self_eq_true, Bool.true_and]
      · refine ⟨_, _, get_walk (same_way_1 l c l' c' k ws vs) ?_, fun h => (by cases h), fun _ => ?_⟩
        · have he' : (ws.getD k.toNat 0 != vs.getD k.toNat 0) = true := by rw [bne_iff_ne]; exact he
          simp only [Nat.zero_add, Nat.mul_one, decide_eq_true hk, decide_eq_true h1, decide_eq_true h1', decide_eq_true h2, decide_eq_true h3, he']
        · have he' : (ws.getD k.toNat 0 == vs.getD k.toNat 0) = false := by rw [beq_eq_false_iff_ne]; exact he
          simp only [same_out, hn, sameF, he', Bool.false_and, Tree.get_br, Bool.false_eq_true, if_false, Tree.get_leaf]
    · refine ⟨_, _, get_walk (same_way_3 l c l' c' k ws vs) (by rw [decide_eq_false hk]), fun h => (by cases h), fun _ => ?_⟩
      have hn : ((l : Int) - k).toNat = 0 := by omega
      simp only [same_out, hn, sameF, Tree.get_br, if_true, Tree.get_leaf]
  · exact hI.elim
theorem bodySame_is : bodyOf 23 = some ((bodyOf 23).getD .skip) := by kernel_rfl
noncomputable def same_sums : Sums := withLoop sums9 23 4 (lsum 2 SL same_I same_out)
theorem same_ok : SumsOk same_sums := loop_sum sums9_ok same_m bodySame_is (by kernel_rfl) (by decide) same_step
def SameFm : FForm := ⟨[.slice 0 0 none, .slice 1 0 none], sB, [⟨[(0, .bool)], 1, sB, 2, []⟩]⟩
theorem samef_way_1 (l c l' c' : Nat) (ws vs : List Int) : walk (endF (ev same_sums 60 23) SameFm [.n l, .n c, .n l', .n c', .ws ws, .ws vs]) [true] =
    some ([(l : Int) != (l' : Int)], (0, [.b false, .ws (ws), .ws (vs)])) := by kernel_rfl
theorem samef_way_2 (l c l' c' : Nat) (ws vs : List Int) : walk (endF (ev same_sums 60 23) SameFm [.n l, .n c, .n l', .n c', .ws ws, .ws vs]) [false, true, true] =
    some ([(l : Int) != (l' : Int), cdec (same_I ([Atom.n l, Atom.n c] ++ ([Atom.n l', Atom.n c'] ++ ([Atom.i 0] ++ [])) ++ ([Atom.ws ws] ++ ([Atom.ws vs] ++ [])))), Bound.sameF ws vs ((l : Int) - 0).toNat 0], (0, [.b true, .ws (ws), .ws (vs)])) := by kernel_rfl
theorem samef_way_3 (l c l' c' : Nat) (ws vs : List Int) : walk (endF (ev same_sums 60 23) SameFm [.n l, .n c, .n l', .n c', .ws ws, .ws vs]) [false, true, false] =
    some ([(l : Int) != (l' : Int), cdec (same_I ([Atom.n l, Atom.n c] ++ ([Atom.n l', Atom.n c'] ++ ([Atom.i 0] ++ [])) ++ ([Atom.ws ws] ++ ([Atom.ws vs] ++ [])))), Bound.sameF ws vs ((l : Int) - 0).toNat 0], (0, [.b false, .ws (ws), .ws (vs)])) := by kernel_rfl

theorem sameF_iff (ws vs : List Int) : ∀ (n : Nat) (k : Int), 0 ≤ k → (sameF ws vs n k = true ↔ ∀ j : Nat, k.toNat ≤ j → j < k.toNat + n → ws.getD j 0 = vs.getD j 0)
  | 0, k, h0 => by simp [sameF]; intro j h1 h2; omega
  | n + 1, k, h0 => by
    simp only [sameF, Bool.and_eq_true, beq_iff_eq, sameF_iff ws vs n (k + 1) (by omega)]
    have e : (k + 1).toNat = k.toNat + 1 := by omega
    rw [e]
    constructor
    · rintro ⟨h1, h2⟩ j h3 h4
      by_cases hj : j = k.toNat
      · subst hj; exact h1
      · exact h2 j (by omega) (by omega)
    · intro h
      exact ⟨h _ (Nat.le_refl _) (by omega), fun j h1 h2 => h j (by omega) (by omega)⟩
theorem sameF_eq {ws vs : List Int} (h : ws.length = vs.length) : sameF ws vs ws.length 0 = decide (ws = vs) := by
  rw [Bool.eq_iff_iff, sameF_iff ws vs _ 0 (by omega), decide_eq_true_iff]
  constructor
  · intro hj
    apply List.ext_getElem h
    intro i h1 h2
    have := hj i (by simp) (by simpa using h1)
    simpa [List.getD_eq_getElem?_getD, List.getElem?_eq_getElem h1, List.getElem?_eq_getElem h2] using this
  · rintro rfl j _ _
    rfl
def sameG_I : List Atom → Prop
  | [.n l, .n c, .n l', .n c', .ws ws, .ws vs] => ws.length = l ∧ vs.length = l' ∧ l ≤ 100000
  | _ => False
def sameG_out : List Atom → Tree (Nat × List Atom)
  | [.n l, .n c, .n l', .n c', .ws ws, .ws vs] => .leaf (0, [.b (decide (ws = vs)), .ws ws, .ws vs])
  | _ => .bad
theorem sameG_step (x : List Atom) (h : sameG_I x) : ∃ r, (endF (ev same_sums 60 23) SameFm x).get = some r ∧ (sameG_out x).get = some r := by
  unfold sameG_I at h
  split at h
  · rename_i l c l' c' ws vs
    obtain ⟨hl, hv, hb⟩ := h
    by_cases e : l = l'
    · subst e
      have hI : cdec (same_I ([Atom.n l, Atom.n c] ++ ([Atom.n l, Atom.n c'] ++ ([Atom.i 0] ++ [])) ++ ([Atom.ws ws] ++ ([Atom.ws vs] ++ [])))) = true := cdec_true ⟨hl, hv, rfl, by omega, hb⟩
      have hn : ((l : Int) - 0).toNat = ws.length := by omega
      have hs := sameF_eq (ws := ws) (vs := vs) (by omega)
      by_cases hw : ws = vs
      · refine ⟨_, get_walk (samef_way_2 l c l c' ws vs) ?_, by simp only [sameG_out, decide_eq_true hw, Tree.get_leaf]⟩
        rw [hI, hn, hs, decide_eq_true hw, bne_self_eq_false]
      · refine ⟨_, get_walk (samef_way_3 l c l c' ws vs) ?_, by simp only [sameG_out, decide_eq_false hw, Tree.get_leaf]⟩
        rw [hI, hn, hs, decide_eq_false hw, bne_self_eq_false]
    · have hne : ((l : Int) != (l' : Int)) = true := by rw [bne_iff_ne]; omega
      have hw : ¬ ws = vs := by rintro rfl; omega
      exact ⟨_, get_walk (samef_way_1 l c l' c' ws vs) (by rw [hne]), by simp only [sameG_out, decide_eq_false hw, Tree.get_leaf]⟩
  · exact h.elim
noncomputable def sumsS : Sums := withForm sumsC 23 SameFm sameG_I sameG_out
theorem sumsS_ok : SumsOk sumsS := withForm_ok sumsC_ok same_ok 60 (by kernel_rfl) sameG_step
end Go.Proofs.YtifojacfedjedaaGreat.Bound
