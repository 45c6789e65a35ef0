/- Whether the program's words, and the last access, are the document's: as a tree. No condition. -/
import Derived.Test.YtifojacfedjedaaGreatPokedQ
namespace Go.Proofs.YtifojacfedjedaaGreat.Bound
open Go.Proofs.YtifojacfedjedaaGreat.Ev Go.Proofs.YtifojacfedjedaaGreat.ChartMath
set_option linter.unusedVariables false
set_option linter.unusedSimpArgs false
def alikeB (s r : MS) : Bool := decide (s.ws = r.ws) && (s.many == r.many && (s.tk == r.tk && (s.ts == r.ts && (s.to == r.to && true) && (s.told == r.told && (s.tnew == r.tnew && (s.td == r.td && true))))))
theorem alikeB_self (s : MS) : alikeB s s = true := by simp [alikeB]
def alike_t : List Atom → Tree (Nat × List Atom)
  | .i T' :: .i S' :: .i K' :: .i G' :: .i Q' :: .n l' :: .n c' :: .i many' :: .i tk' :: .i ts' :: .i to' :: .i told' :: .i tnew' :: .b td' :: .i T :: .i S :: .i K :: .i G :: .i Q :: .n l :: .n c :: .i tk :: .i ts :: .i to :: .i told :: .i tnew :: .b td :: .i many :: .ws ws :: .ws ws' :: [] =>
    .br (rowB T S K G Q l ⟨ws, many, tk, ts, to, told, tnew, td⟩ && Nat.beq ws'.length l')
    (.leaf (0, [.b (alikeB ⟨ws, many, tk, ts, to, told, tnew, td⟩ ⟨ws', many', tk', ts', to', told', tnew', td'⟩), .i T, .i S, .i K, .i G, .i Q, .n l, .n c, .i tk, .i ts, .i to, .i told, .i tnew, .b td, .i many, .ws ws, .ws ws'])) .bad
  | _ => .bad
theorem alike_st (x : List Atom) (r : Nat × List Atom) (h : (alike_t x).get = some r) : (endF (ev sumsS 60 29) AlikeF x).get = some r := by
  unfold alike_t at h
  split at h
  · rename_i T' S' K' G' Q' l' c' many' tk' ts' to' told' tnew' td' T S K G Q l c tk ts to told tnew td many ws ws'
    rw [Tree.get_br] at h
    split at h
    case isFalse => cases h
    case isTrue hg =>
    simp only [Bool.and_eq_true] at hg
    have hr := rowB_row hg.1
    obtain ⟨q, q1, q2⟩ := alike_step [.i T', .i S', .i K', .i G', .i Q', .n l', .n c', .i many', .i tk', .i ts', .i to', .i told', .i tnew', .b td', .i T, .i S, .i K, .i G, .i Q, .n l, .n c, .i tk, .i ts, .i to, .i told, .i tnew, .b td, .i many, .ws ws, .ws ws'] ⟨hr, Nat.eq_of_beq_eq_true hg.2⟩
    rw [q1, ← q2, ← h]
    rfl
  · cases h
noncomputable def sumsA : Sums := withT sumsP 29 [(AlikeF, alike_t)]
theorem sumsA_ok : SumsOk sumsA := withT_ok sumsP_ok sumsS_ok 60 (by kernel_rfl) (one_t alike_st)
end Go.Proofs.YtifojacfedjedaaGreat.Bound
