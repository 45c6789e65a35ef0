/- EV: an answer's tree, told with its branches that cannot be left out. No condition. -/
import Derived.Test.YtifojacfedjedaaGreatEvCQ
namespace Go.Proofs.YtifojacfedjedaaGreat.Ev
set_option linter.unusedVariables false
/-- A tree to be compared with: a branch that is not looked at is bad; cs: so many questions, each of which is a known truth, are left out. -/
inductive PT (α : Type) where
  | bad
  | leaf (a : α)
  | b (q : Bool) (t e : PT α)
  | cs (n : Nat) (t : PT α)
def den {α : Type} : PT α → Tree α
  | .bad => .bad
  | .leaf a => .leaf a
  | .b q t e => .br q (den t) (den e)
  | .cs _ t => den t
def skipT {α : Type} : Nat → Tree α → Tree α
  | 0, t => t
  | n + 1, .br b t e => cond b (skipT n t) (skipT n e)
  | _, _ => .bad
def cutP {α : Type} : PT α → Tree α → Tree α
  | .bad, _ => .bad
  | .leaf _, .leaf a => .leaf a
  | .b _ p q, .br b t e => .br b (cutP p t) (cutP q e)
  | .cs n p, t => cutP p (skipT n t)
  | _, _ => .bad
theorem skip_get {α : Type} {r : α} : ∀ {n : Nat} {t : Tree α}, (skipT n t).get = some r → t.get = some r
  | 0, t, h => h
  | n + 1, .br b t e, h => by
    cases b
    · simp only [skipT, cond_false] at h
      simpa using skip_get h
    · simp only [skipT, cond_true] at h
      simpa using skip_get h
  | n + 1, .leaf a, h => by simp [skipT] at h
  | n + 1, .bad, h => by simp [skipT] at h
theorem cutP_get {α : Type} {r : α} : ∀ {p : PT α} {t : Tree α}, (cutP p t).get = some r → t.get = some r
  | .bad, t, h => by cases t <;> simp [cutP] at h
  | .leaf _, .leaf a, h => by simpa [cutP] using h
  | .leaf _, .br _ _ _, h => by simp [cutP] at h
  | .leaf _, .bad, h => by simp [cutP] at h
  | .b _ p q, .leaf a, h => by simp [cutP] at h
  | .b _ p q, .bad, h => by simp [cutP] at h
  | .b _ p q, .br b t e, h => by
    simp only [cutP] at h
    cases b
    · simp at h ⊢
      exact cutP_get h
    · simp at h ⊢
      exact cutP_get h
  | .cs n p, t, h => by
    have h : (cutP p (skipT n t)).get = some r := by cases t <;> simpa only [cutP] using h
    exact skip_get (cutP_get h)
theorem cut_get {α : Type} {r : α} {p : PT α} {t : Tree α} (e : cutP p t = den p) (h : (den p).get = some r) : t.get = some r := cutP_get (by rw [e]; exact h)
/-- Only what is answered. -/
def valT (t : Tree (Value × TH × List Nat)) : Tree Value := t.bind fun r => .leaf r.1
theorem valT_out {t : Tree (Value × TH × List Nat)} {v : Value} (h : (valT t).get = some v) : outV t = some v := by
  induction t with
  | leaf r => simpa [valT, Tree.bind, outV] using h
  | bad => simp [valT, Tree.bind] at h
  | br b t e ih1 ih2 => cases b <;> simp [valT, Tree.bind, outV] at h ⊢ <;> first | exact ih1 (by simpa [valT] using h) | exact ih2 (by simpa [valT] using h)
end Go.Proofs.YtifojacfedjedaaGreat.Ev
