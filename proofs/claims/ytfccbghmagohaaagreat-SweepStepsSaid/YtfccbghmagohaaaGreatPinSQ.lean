/- Whom a grace asks next, and whether it is done, by the document, as trees. No condition. -/
import Derived.Test.YtfccbghmagohaaaGreatPackSQ
namespace Go.Proofs.YtfccbghmagohaaaGreat.Bound
open Go.Proofs.YtfccbghmagohaaaGreat.Ev
set_option linter.unusedVariables false
set_option linter.unusedSimpArgs false
def GNextF : FForm := ⟨[.agg [.int .i64, .int .u64, .int .i64, .bool], .int .i64], [], [⟨[(0, .int .i64)], 1, [], 0, []⟩]⟩
def GDoneF : FForm := ⟨[.agg [.int .i64, .int .u64, .int .i64, .bool], .int .i64], [], [⟨[(0, .bool)], 1, [], 0, []⟩]⟩
theorem gn_way_1 (o r p T : Int) (b : Bool) : walk (endF (ev sumsF3 60 124) GNextF [.i o, .i r, .i p, .b b, .i T]) [true, true] =
    some ([p == o, decide (IntKind.i64.wrap (p + (1 : Int)) > T)], (0, [.i (T)])) := by kernel_rfl
theorem gn_way_2 (o r p T : Int) (b : Bool) : walk (endF (ev sumsF3 60 124) GNextF [.i o, .i r, .i p, .b b, .i T]) [true, false] =
    some ([p == o, decide (IntKind.i64.wrap (p + (1 : Int)) > T)], (0, [.i (IntKind.i64.wrap (p + (1 : Int)))])) := by kernel_rfl
theorem gn_way_3 (o r p T : Int) (b : Bool) : walk (endF (ev sumsF3 60 124) GNextF [.i o, .i r, .i p, .b b, .i T]) [false, true] =
    some ([p == o, decide (p > T)], (0, [.i (T)])) := by kernel_rfl
theorem gn_way_4 (o r p T : Int) (b : Bool) : walk (endF (ev sumsF3 60 124) GNextF [.i o, .i r, .i p, .b b, .i T]) [false, false] =
    some ([p == o, decide (p > T)], (0, [.i (p)])) := by kernel_rfl
theorem gd_way_1 (o r p T : Int) (b : Bool) : walk (endF (ev sumsF3 60 99) GDoneF [.i o, .i r, .i p, .b b, .i T]) [true, true, true, true, true, true] =
    some ([b, true, true, true, true, true], (0, [.b true])) := by kernel_rfl
theorem gd_way_2 (o r p T : Int) (b : Bool) : walk (endF (ev sumsF3 60 99) GDoneF [.i o, .i r, .i p, .b b, .i T]) [false, false, false, true, true, false, false] =
    some ([b, false, false, p == o, decide (IntKind.i64.wrap (p + (1 : Int)) > T), false, false], (0, [.b (bif false then true else decide (T ≥ T))])) := by kernel_rfl
theorem gd_way_3 (o r p T : Int) (b : Bool) : walk (endF (ev sumsF3 60 99) GDoneF [.i o, .i r, .i p, .b b, .i T]) [false, false, false, true, false, false, false] =
    some ([b, false, false, p == o, decide (IntKind.i64.wrap (p + (1 : Int)) > T), false, false], (0, [.b (bif false then true else decide (IntKind.i64.wrap (p + (1 : Int)) ≥ T))])) := by kernel_rfl
theorem gd_way_4 (o r p T : Int) (b : Bool) : walk (endF (ev sumsF3 60 99) GDoneF [.i o, .i r, .i p, .b b, .i T]) [false, false, false, false, true, false, false] =
    some ([b, false, false, p == o, decide (p > T), false, false], (0, [.b (bif false then true else decide (T ≥ T))])) := by kernel_rfl
theorem gd_way_5 (o r p T : Int) (b : Bool) : walk (endF (ev sumsF3 60 99) GDoneF [.i o, .i r, .i p, .b b, .i T]) [false, false, false, false, false, false, false] =
    some ([b, false, false, p == o, decide (p > T), false, false], (0, [.b (bif false then true else decide (p ≥ T))])) := by kernel_rfl
theorem bool_tw (b : Bool) : b = true ∨ b = false := by cases b <;> simp
def gnext_t : List Atom → Tree (Nat × List Atom)
  | [.i o, .i r, .i p, .b b, .i T] => .br (p == o) (.br (decide (IntKind.i64.wrap (p + 1) > T)) (.leaf (0, [.i T])) (.leaf (0, [.i (IntKind.i64.wrap (p + 1))]))) (.br (decide (p > T)) (.leaf (0, [.i T])) (.leaf (0, [.i p])))
  | _ => .bad
theorem gnext_st (x : List Atom) (res : Nat × List Atom) (h : (gnext_t x).get = some res) : (endF (ev sumsF3 60 124) GNextF x).get = some res := by
  unfold gnext_t at h
  split at h
  · rename_i o r p b T
    rcases bool_tw (p == o) with h0 | h0
    · rcases bool_tw (decide (IntKind.i64.wrap (p + 1) > T)) with h1 | h1
      · simp only [Tree.get_br, h0, h1, if_true, Tree.get_leaf] at h
        cases h; exact get_walk (gn_way_1 o r p T b) (by simp only [h0, h1])
      · simp only [Tree.get_br, h0, h1, if_true, Bool.false_eq_true, if_false, Tree.get_leaf] at h
        cases h; exact get_walk (gn_way_2 o r p T b) (by simp only [h0, h1])
    · rcases bool_tw (decide (p > T)) with h1 | h1
      · simp only [Tree.get_br, h0, h1, Bool.false_eq_true, if_false, if_true, Tree.get_leaf] at h
        cases h; exact get_walk (gn_way_3 o r p T b) (by simp only [h0, h1])
      · simp only [Tree.get_br, h0, h1, Bool.false_eq_true, if_false, Tree.get_leaf] at h
        cases h; exact get_walk (gn_way_4 o r p T b) (by simp only [h0, h1])
  · cases h
def gdone_t : List Atom → Tree (Nat × List Atom)
  | [.i o, .i r, .i p, .b b, .i T] => .br b (.leaf (0, [.b true])) (.br (p == o) (.leaf (0, [.b (decide (IntKind.i64.wrap (p + 1) ≥ T))])) (.leaf (0, [.b (decide (p ≥ T))])))
  | _ => .bad
theorem cap_ge {x T : Int} (h : x > T) : decide (x ≥ T) = true := decide_eq_true (by omega)
theorem gdone_st (x : List Atom) (res : Nat × List Atom) (h : (gdone_t x).get = some res) : (endF (ev sumsF3 60 99) GDoneF x).get = some res := by
  unfold gdone_t at h
  split at h
  · rename_i o r p b T
    have ht : decide (T ≥ T) = true := decide_eq_true (by omega)
    rcases bool_two b with hb | hb
    · subst hb
      simp only [Tree.get_br, if_true, Tree.get_leaf] at h
      cases h; exact get_walk (gd_way_1 o r p T true) rfl
    · subst hb
      rcases bool_two (p == o) with h0 | h0
      · by_cases h1 : IntKind.i64.wrap (p + 1) > T
        · simp only [Tree.get_br, h0, Bool.false_eq_true, if_false, if_true, Tree.get_leaf, cap_ge h1] at h
          cases h
          have := get_walk (gd_way_2 o r p T false) (by simp only [h0, decide_eq_true h1])
          rw [this, ht]; rfl
        · simp only [Tree.get_br, h0, Bool.false_eq_true, if_false, if_true, Tree.get_leaf] at h
          cases h; exact get_walk (gd_way_3 o r p T false) (by simp only [h0, decide_eq_false h1])
      · by_cases h1 : p > T
        · simp only [Tree.get_br, h0, Bool.false_eq_true, if_false, Tree.get_leaf, cap_ge h1] at h
          cases h
          have := get_walk (gd_way_4 o r p T false) (by simp only [h0, decide_eq_true h1])
          rw [this, ht]; rfl
        · simp only [Tree.get_br, h0, Bool.false_eq_true, if_false, Tree.get_leaf] at h
          cases h; exact get_walk (gd_way_5 o r p T false) (by simp only [h0, decide_eq_false h1])
  · cases h
noncomputable def sumsS2 : Sums := withT (withT sumsF3 124 [(GNextF, gnext_t)]) 99 [(GDoneF, gdone_t)]
theorem sumsS2_ok : SumsOk sumsS2 := withT_ok (withT_ok sumsF3_ok sumsF3_ok 60 (by kernel_rfl) fun a ha => by
  simp only [List.mem_cons, List.not_mem_nil, or_false] at ha; subst ha; exact gnext_st) sumsF3_ok 60 (by kernel_rfl) fun a ha => by
  simp only [List.mem_cons, List.not_mem_nil, or_false] at ha; subst ha; exact gdone_st
end Go.Proofs.YtfccbghmagohaaaGreat.Bound
