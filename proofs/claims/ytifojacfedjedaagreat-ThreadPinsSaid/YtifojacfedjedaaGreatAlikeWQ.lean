/- Whether the program's words, and the last access, are the document's: by form. No condition. -/
import Derived.Test.YtifojacfedjedaaGreatSameWQ
namespace Go.Proofs.YtifojacfedjedaaGreat.Bound
open Go.Proofs.YtifojacfedjedaaGreat.Ev
set_option linter.unusedVariables false
set_option linter.unusedSimpArgs false
def rmem2 : Pat := .agg [.int .i64, .int .i64, .int .i64, .int .i64, .int .u64, .slice 2 0 none, .int .i64, .int .i64, .int .i64, .int .i64, .int .u64, .int .u64, .bool]
def AlikeF : FForm := ⟨[.ptr 0 0 none, rmem2], memB ++ [(2, 22, .ints .u64)], [⟨[(0, .bool)], 1, memB ++ [(2, 22, .ints .u64)], 3, []⟩]⟩
theorem alike_way_1 (T S K G Q : Int) (l c : Nat) (tk ts to told tnew many : Int) (td : Bool) (ws vs : List Int) (T' S' K' G' Q' : Int) (l' c' : Nat) (rk rs ro rold rnew rmany : Int) (rd : Bool) : walk (endF (ev sumsS 60 29) AlikeF [.i T', .i S', .i K', .i G', .i Q', .n l', .n c', .i rmany, .i rk, .i rs, .i ro, .i rold, .i rnew, .b rd, .i T, .i S, .i K, .i G, .i Q, .n l, .n c, .i tk, .i ts, .i to, .i told, .i tnew, .b td, .i many, .ws ws, .ws vs]) [true, true, true, true, true, true, true, true, true, true, true] =
    some ([cdec (cells_I ([] ++ [] ++ ([Atom.i T] ++ ([Atom.i S] ++ ([Atom.i K] ++ ([Atom.i G] ++ ([Atom.i Q] ++ ([Atom.n l, Atom.n c] ++ ([Atom.i tk] ++ ([Atom.i ts] ++ ([Atom.i to] ++ ([Atom.i told] ++ ([Atom.i tnew] ++ ([Atom.b td] ++ ([Atom.i many] ++ [])))))))))))) ++ ([Atom.ws ws] ++ [])))), cdec (sameG_I ([Atom.n l, Atom.n l] ++ ([Atom.n l', Atom.n c'] ++ []) ++ ([Atom.ws ws] ++ ([Atom.ws vs] ++ [])))), decide (ws = vs), true, true, true, true, bif true then many == rmany else false, true, true, true], (0, [.b (bif true then tk == rk && (ts == rs && (to == ro && true) && (told == rold && (tnew == rnew && (td == rd && true)))) else false), .i (T), .i (S), .i (K), .i (G), .i (Q), .n (l), .n (c), .i (tk), .i (ts), .i (to), .i (told), .i (tnew), .b (td), .i (many), .ws (ws), .ws (vs)])) := by kernel_rfl
theorem alike_way_2 (T S K G Q : Int) (l c : Nat) (tk ts to told tnew many : Int) (td : Bool) (ws vs : List Int) (T' S' K' G' Q' : Int) (l' c' : Nat) (rk rs ro rold rnew rmany : Int) (rd : Bool) : walk (endF (ev sumsS 60 29) AlikeF [.i T', .i S', .i K', .i G', .i Q', .n l', .n c', .i rmany, .i rk, .i rs, .i ro, .i rold, .i rnew, .b rd, .i T, .i S, .i K, .i G, .i Q, .n l, .n c, .i tk, .i ts, .i to, .i told, .i tnew, .b td, .i many, .ws ws, .ws vs]) [true, true, true, true, true, true, true, false, false, false, false, false] =
    some ([cdec (cells_I ([] ++ [] ++ ([Atom.i T] ++ ([Atom.i S] ++ ([Atom.i K] ++ ([Atom.i G] ++ ([Atom.i Q] ++ ([Atom.n l, Atom.n c] ++ ([Atom.i tk] ++ ([Atom.i ts] ++ ([Atom.i to] ++ ([Atom.i told] ++ ([Atom.i tnew] ++ ([Atom.b td] ++ ([Atom.i many] ++ [])))))))))))) ++ ([Atom.ws ws] ++ [])))), cdec (sameG_I ([Atom.n l, Atom.n l] ++ ([Atom.n l', Atom.n c'] ++ []) ++ ([Atom.ws ws] ++ ([Atom.ws vs] ++ [])))), decide (ws = vs), true, true, true, true, bif true then many == rmany else false, false, false, false, false], (0, [.b false, .i (T), .i (S), .i (K), .i (G), .i (Q), .n (l), .n (c), .i (tk), .i (ts), .i (to), .i (told), .i (tnew), .b (td), .i (many), .ws (ws), .ws (vs)])) := by kernel_rfl
theorem alike_way_3 (T S K G Q : Int) (l c : Nat) (tk ts to told tnew many : Int) (td : Bool) (ws vs : List Int) (T' S' K' G' Q' : Int) (l' c' : Nat) (rk rs ro rold rnew rmany : Int) (rd : Bool) : walk (endF (ev sumsS 60 29) AlikeF [.i T', .i S', .i K', .i G', .i Q', .n l', .n c', .i rmany, .i rk, .i rs, .i ro, .i rold, .i rnew, .b rd, .i T, .i S, .i K, .i G, .i Q, .n l, .n c, .i tk, .i ts, .i to, .i told, .i tnew, .b td, .i many, .ws ws, .ws vs]) [true, true, false, false, false, false, false, false, false, false, false, false, false] =
    some ([cdec (cells_I ([] ++ [] ++ ([Atom.i T] ++ ([Atom.i S] ++ ([Atom.i K] ++ ([Atom.i G] ++ ([Atom.i Q] ++ ([Atom.n l, Atom.n c] ++ ([Atom.i tk] ++ ([Atom.i ts] ++ ([Atom.i to] ++ ([Atom.i told] ++ ([Atom.i tnew] ++ ([Atom.b td] ++ ([Atom.i many] ++ [])))))))))))) ++ ([Atom.ws ws] ++ [])))), cdec (sameG_I ([Atom.n l, Atom.n l] ++ ([Atom.n l', Atom.n c'] ++ []) ++ ([Atom.ws ws] ++ ([Atom.ws vs] ++ [])))), decide (ws = vs), false, false, false, false, false, false, false, false, false, false], (0, [.b false, .i (T), .i (S), .i (K), .i (G), .i (Q), .n (l), .n (c), .i (tk), .i (ts), .i (to), .i (told), .i (tnew), .b (td), .i (many), .ws (ws), .ws (vs)])) := by kernel_rfl

def alike_I : List Atom → Prop
  | [.i T', .i S', .i K', .i G', .i Q', .n l', .n c', .i rmany, .i rk, .i rs, .i ro, .i rold, .i rnew, .b rd, .i T, .i S, .i K, .i G, .i Q, .n l, .n c, .i tk, .i ts, .i to, .i told, .i tnew, .b td, .i many, .ws ws, .ws vs] => Row T S K G Q l ws ∧ vs.length = l'
  | _ => False
def alike_out : List Atom → Tree (Nat × List Atom)
  | [.i T', .i S', .i K', .i G', .i Q', .n l', .n c', .i rmany, .i rk, .i rs, .i ro, .i rold, .i rnew, .b rd, .i T, .i S, .i K, .i G, .i Q, .n l, .n c, .i tk, .i ts, .i to, .i told, .i tnew, .b td, .i many, .ws ws, .ws vs] =>
    .leaf (0, [.b (decide (ws = vs) && (many == rmany && (tk == rk && (ts == rs && (to == ro && true) && (told == rold && (tnew == rnew && (td == rd && true))))))), .i T, .i S, .i K, .i G, .i Q, .n l, .n c, .i tk, .i ts, .i to, .i told, .i tnew, .b td, .i many, .ws ws, .ws vs])
  | _ => .bad
theorem alike_step (x : List Atom) (h : alike_I x) : ∃ r, (endF (ev sumsS 60 29) AlikeF x).get = some r ∧ (alike_out x).get = some r := by
  unfold alike_I at h
  split at h
  · rename_i T' S' K' G' Q' l' c' rmany rk rs ro rold rnew rd T S K G Q l c tk ts to told tnew td many ws vs
    obtain ⟨hr, hv⟩ := h
    have hb : l ≤ 100000 := by
      obtain ⟨hR, h1, h2⟩ := hr
      obtain ⟨t1, t2, s1, s2, k1, k2, _⟩ := right_iff.1 hR
      have hlo : ChartMath.lenOf T S K = 2 + T + 4 * S + K := rfl
      omega
    have c1 : cdec (cells_I ([] ++ [] ++ ([Atom.i T] ++ ([Atom.i S] ++ ([Atom.i K] ++ ([Atom.i G] ++ ([Atom.i Q] ++ ([Atom.n l, Atom.n c] ++ ([Atom.i tk] ++ ([Atom.i ts] ++ ([Atom.i to] ++ ([Atom.i told] ++ ([Atom.i tnew] ++ ([Atom.b td] ++ ([Atom.i many] ++ [])))))))))))) ++ ([Atom.ws ws] ++ [])))) = true := cdec_true hr
    have c2 : cdec (sameG_I ([Atom.n l, Atom.n l] ++ ([Atom.n l', Atom.n c'] ++ []) ++ ([Atom.ws ws] ++ ([Atom.ws vs] ++ [])))) = true := cdec_true ⟨hr.2.1, hv, hb⟩
    by_cases e : ws = vs
    · by_cases m : many = rmany
      · have m' : (many == rmany) = true := by rw [beq_iff_eq]; exact m
        refine ⟨_, get_walk (alike_way_1 T S K G Q l c tk ts to told tnew many td ws vs T' S' K' G' Q' l' c' rk rs ro rold rnew rmany rd) (by rw [c1, c2, decide_eq_true e, m']; rfl), ?_⟩
        simp only [alike_out, decide_eq_true e, m', Bool.true_and, cond_true, Tree.get_leaf]
      · have m' : (many == rmany) = false := by rw [beq_eq_false_iff_ne]; exact m
        refine ⟨_, get_walk (alike_way_2 T S K G Q l c tk ts to told tnew many td ws vs T' S' K' G' Q' l' c' rk rs ro rold rnew rmany rd) (by rw [c1, c2, decide_eq_true e, m']; rfl), ?_⟩
        simp only [alike_out, decide_eq_true e, m', Bool.true_and, Bool.false_and, Tree.get_leaf]
    · refine ⟨_, get_walk (alike_way_3 T S K G Q l c tk ts to told tnew many td ws vs T' S' K' G' Q' l' c' rk rs ro rold rnew rmany rd) (by rw [c1, c2, decide_eq_false e]), ?_⟩
      simp only [alike_out, decide_eq_false e, Bool.false_and, Tree.get_leaf]
  · exact h.elim
noncomputable def sumsL : Sums := withForm sumsS 29 AlikeF alike_I alike_out
theorem sumsL_ok : SumsOk sumsL := withForm_ok sumsS_ok sumsS_ok 60 (by kernel_rfl) alike_step
end Go.Proofs.YtifojacfedjedaaGreat.Bound
