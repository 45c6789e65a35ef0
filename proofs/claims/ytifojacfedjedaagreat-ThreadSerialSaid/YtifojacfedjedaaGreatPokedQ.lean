/- What is written meanwhile: into the program's words, and the document's. No condition. -/
import Derived.Test.YtifojacfedjedaaGreatMemP
namespace Go.Proofs.YtifojacfedjedaaGreat.Bound
open Go.Proofs.YtifojacfedjedaaGreat.Ev Go.Proofs.YtifojacfedjedaaGreat.ChartMath
set_option linter.unusedVariables false
set_option linter.unusedSimpArgs false
def rvals (p : Pat) : CPat := .vals [.int .i64, .int .i64, .int .i64, .int .i64, .int .u64, p, .int .i64, .int .i64, .int .i64, .int .i64, .int .u64, .int .u64, .bool]
def pokeR : List Fmt := [.int .i64, .int .i64, .int .i64, .int .u64]
def PH : SPat := ⟨[(0, .ptr 0 0 none), (3, .int .i64), (5, .ptr 4 0 none), (8, .ptr 6 0 none), (11, .slice 3 0 (some 16384)), (12, .int .i64), (13, .int .i64)], 40, memB ++ [(3, winT, .recs pokeR), (4, 57, rvals (.slice 5 0 none)), (5, 22, .ints .u64), (6, 57, rvals .nilSlice)], 7, [0, 1, 2]⟩
def PL : LForm := ⟨[0, 3, 5, 8, 11, 12, 13], PH, [0, 3, 5, 8, 11, 12, 13], [(0, PH)], []⟩
def poke_t (T S K G Q : Int) (l c l' : Nat) (s r : MS) (step : Int) (n cc : Nat) (len k : Int) (rs : List (List Int)) (z1 z2 z3 z4 z5 z6 z7 z8 z9 z10 z11 : Int) (zb : Bool) : Tree (Ex × List Atom) :=
  .br (decide (k < len)) (.br (decide ((0 : Int) ≤ k ∧ k < (↑n : Int))) (.br (decide ((0 : Nat) + k.toNat < rs.length)) (.br ((rs.getD ((0 : Nat) + k.toNat) []).getD (0 : Nat) (0 : Int) == step) (.br (rowB T S K G Q l s) (.br (rowB T S K G Q l r && l'.beq l) (.leaf (.normal, [.i (step), .n (n), .n (cc), .i (len), .i (IntKind.i64.wrap (k + (1 : Int))), .i (T), .i (S), .i (K), .i (G), .i (Q), .n (l), .n (c), .i ((mstore T S K s ((rs.getD ((0 : Nat) + k.toNat) []).getD ((0 : Nat) + (1 : Nat)) (0 : Int)) ((rs.getD ((0 : Nat) + k.toNat) []).getD ((0 : Nat) + (1 : Nat) + (1 : Nat)) (0 : Int)) ((rs.getD ((0 : Nat) + k.toNat) []).getD ((0 : Nat) + (1 : Nat) + (1 : Nat) + (1 : Nat)) (0 : Int))).tk), .i ((mstore T S K s ((rs.getD ((0 : Nat) + k.toNat) []).getD ((0 : Nat) + (1 : Nat)) (0 : Int)) ((rs.getD ((0 : Nat) + k.toNat) []).getD ((0 : Nat) + (1 : Nat) + (1 : Nat)) (0 : Int)) ((rs.getD ((0 : Nat) + k.toNat) []).getD ((0 : Nat) + (1 : Nat) + (1 : Nat) + (1 : Nat)) (0 : Int))).ts), .i ((mstore T S K s ((rs.getD ((0 : Nat) + k.toNat) []).getD ((0 : Nat) + (1 : Nat)) (0 : Int)) ((rs.getD ((0 : Nat) + k.toNat) []).getD ((0 : Nat) + (1 : Nat) + (1 : Nat)) (0 : Int)) ((rs.getD ((0 : Nat) + k.toNat) []).getD ((0 : Nat) + (1 : Nat) + (1 : Nat) + (1 : Nat)) (0 : Int))).to), .i ((mstore T S K s ((rs.getD ((0 : Nat) + k.toNat) []).getD ((0 : Nat) + (1 : Nat)) (0 : Int)) ((rs.getD ((0 : Nat) + k.toNat) []).getD ((0 : Nat) + (1 : Nat) + (1 : Nat)) (0 : Int)) ((rs.getD ((0 : Nat) + k.toNat) []).getD ((0 : Nat) + (1 : Nat) + (1 : Nat) + (1 : Nat)) (0 : Int))).told), .i ((mstore T S K s ((rs.getD ((0 : Nat) + k.toNat) []).getD ((0 : Nat) + (1 : Nat)) (0 : Int)) ((rs.getD ((0 : Nat) + k.toNat) []).getD ((0 : Nat) + (1 : Nat) + (1 : Nat)) (0 : Int)) ((rs.getD ((0 : Nat) + k.toNat) []).getD ((0 : Nat) + (1 : Nat) + (1 : Nat) + (1 : Nat)) (0 : Int))).tnew), .b ((mstore T S K s ((rs.getD ((0 : Nat) + k.toNat) []).getD ((0 : Nat) + (1 : Nat)) (0 : Int)) ((rs.getD ((0 : Nat) + k.toNat) []).getD ((0 : Nat) + (1 : Nat) + (1 : Nat)) (0 : Int)) ((rs.getD ((0 : Nat) + k.toNat) []).getD ((0 : Nat) + (1 : Nat) + (1 : Nat) + (1 : Nat)) (0 : Int))).td), .i ((mstore T S K s ((rs.getD ((0 : Nat) + k.toNat) []).getD ((0 : Nat) + (1 : Nat)) (0 : Int)) ((rs.getD ((0 : Nat) + k.toNat) []).getD ((0 : Nat) + (1 : Nat) + (1 : Nat)) (0 : Int)) ((rs.getD ((0 : Nat) + k.toNat) []).getD ((0 : Nat) + (1 : Nat) + (1 : Nat) + (1 : Nat)) (0 : Int))).many), .ws ((mstore T S K s ((rs.getD ((0 : Nat) + k.toNat) []).getD ((0 : Nat) + (1 : Nat)) (0 : Int)) ((rs.getD ((0 : Nat) + k.toNat) []).getD ((0 : Nat) + (1 : Nat) + (1 : Nat)) (0 : Int)) ((rs.getD ((0 : Nat) + k.toNat) []).getD ((0 : Nat) + (1 : Nat) + (1 : Nat) + (1 : Nat)) (0 : Int))).ws), .rs (rs), .i (T), .i (S), .i (K), .i (G), .i (Q), .n (l), .n (l), .i ((mstore T S K r ((rs.getD ((0 : Nat) + k.toNat) []).getD ((0 : Nat) + (1 : Nat)) (0 : Int)) ((rs.getD ((0 : Nat) + k.toNat) []).getD ((0 : Nat) + (1 : Nat) + (1 : Nat)) (0 : Int)) ((rs.getD ((0 : Nat) + k.toNat) []).getD ((0 : Nat) + (1 : Nat) + (1 : Nat) + (1 : Nat)) (0 : Int))).many), .i ((mstore T S K r ((rs.getD ((0 : Nat) + k.toNat) []).getD ((0 : Nat) + (1 : Nat)) (0 : Int)) ((rs.getD ((0 : Nat) + k.toNat) []).getD ((0 : Nat) + (1 : Nat) + (1 : Nat)) (0 : Int)) ((rs.getD ((0 : Nat) + k.toNat) []).getD ((0 : Nat) + (1 : Nat) + (1 : Nat) + (1 : Nat)) (0 : Int))).tk), .i ((mstore T S K r ((rs.getD ((0 : Nat) + k.toNat) []).getD ((0 : Nat) + (1 : Nat)) (0 : Int)) ((rs.getD ((0 : Nat) + k.toNat) []).getD ((0 : Nat) + (1 : Nat) + (1 : Nat)) (0 : Int)) ((rs.getD ((0 : Nat) + k.toNat) []).getD ((0 : Nat) + (1 : Nat) + (1 : Nat) + (1 : Nat)) (0 : Int))).ts), .i ((mstore T S K r ((rs.getD ((0 : Nat) + k.toNat) []).getD ((0 : Nat) + (1 : Nat)) (0 : Int)) ((rs.getD ((0 : Nat) + k.toNat) []).getD ((0 : Nat) + (1 : Nat) + (1 : Nat)) (0 : Int)) ((rs.getD ((0 : Nat) + k.toNat) []).getD ((0 : Nat) + (1 : Nat) + (1 : Nat) + (1 : Nat)) (0 : Int))).to), .i ((mstore T S K r ((rs.getD ((0 : Nat) + k.toNat) []).getD ((0 : Nat) + (1 : Nat)) (0 : Int)) ((rs.getD ((0 : Nat) + k.toNat) []).getD ((0 : Nat) + (1 : Nat) + (1 : Nat)) (0 : Int)) ((rs.getD ((0 : Nat) + k.toNat) []).getD ((0 : Nat) + (1 : Nat) + (1 : Nat) + (1 : Nat)) (0 : Int))).told), .i ((mstore T S K r ((rs.getD ((0 : Nat) + k.toNat) []).getD ((0 : Nat) + (1 : Nat)) (0 : Int)) ((rs.getD ((0 : Nat) + k.toNat) []).getD ((0 : Nat) + (1 : Nat) + (1 : Nat)) (0 : Int)) ((rs.getD ((0 : Nat) + k.toNat) []).getD ((0 : Nat) + (1 : Nat) + (1 : Nat) + (1 : Nat)) (0 : Int))).tnew), .b ((mstore T S K r ((rs.getD ((0 : Nat) + k.toNat) []).getD ((0 : Nat) + (1 : Nat)) (0 : Int)) ((rs.getD ((0 : Nat) + k.toNat) []).getD ((0 : Nat) + (1 : Nat) + (1 : Nat)) (0 : Int)) ((rs.getD ((0 : Nat) + k.toNat) []).getD ((0 : Nat) + (1 : Nat) + (1 : Nat) + (1 : Nat)) (0 : Int))).td), .ws ((mstore T S K r ((rs.getD ((0 : Nat) + k.toNat) []).getD ((0 : Nat) + (1 : Nat)) (0 : Int)) ((rs.getD ((0 : Nat) + k.toNat) []).getD ((0 : Nat) + (1 : Nat) + (1 : Nat)) (0 : Int)) ((rs.getD ((0 : Nat) + k.toNat) []).getD ((0 : Nat) + (1 : Nat) + (1 : Nat) + (1 : Nat)) (0 : Int))).ws), .i (z1), .i (z2), .i (z3), .i (z4), .i (z5), .i (z6), .i (z7), .i (z8), .i (z9), .i (z10), .i (z11), .b (zb)])) (.bad)) (.bad)) (.leaf (.normal, [.i (step), .n (n), .n (cc), .i (len), .i (IntKind.i64.wrap (k + (1 : Int))), .i (T), .i (S), .i (K), .i (G), .i (Q), .n (l), .n (c), .i (s.tk), .i (s.ts), .i (s.to), .i (s.told), .i (s.tnew), .b (s.td), .i (s.many), .ws (s.ws), .rs (rs), .i (T), .i (S), .i (K), .i (G), .i (Q), .n (l), .n (l'), .i (r.many), .i (r.tk), .i (r.ts), .i (r.to), .i (r.told), .i (r.tnew), .b (r.td), .ws (r.ws), .i (z1), .i (z2), .i (z3), .i (z4), .i (z5), .i (z6), .i (z7), .i (z8), .i (z9), .i (z10), .i (z11), .b (zb)]))) (.bad)) (.bad)) (.leaf (.exit 0, [.i (step), .n (n), .n (cc), .i (len), .i (k), .i (T), .i (S), .i (K), .i (G), .i (Q), .n (l), .n (c), .i (s.tk), .i (s.ts), .i (s.to), .i (s.told), .i (s.tnew), .b (s.td), .i (s.many), .ws (s.ws), .rs (rs), .i (T), .i (S), .i (K), .i (G), .i (Q), .n (l), .n (l'), .i (r.many), .i (r.tk), .i (r.ts), .i (r.to), .i (r.told), .i (r.tnew), .b (r.td), .ws (r.ws), .i (z1), .i (z2), .i (z3), .i (z4), .i (z5), .i (z6), .i (z7), .i (z8), .i (z9), .i (z10), .i (z11), .b (zb)]))
theorem poke_is (T S K G Q : Int) (l c l' : Nat) (s r : MS) (step : Int) (n cc : Nat) (len k : Int) (rs : List (List Int)) (z1 z2 z3 z4 z5 z6 z7 z8 z9 z10 z11 : Int) (zb : Bool) : (round sumsT1 60 26 2 4 PL [.i step, .n n, .n cc, .i len, .i k, .i T, .i S, .i K, .i G, .i Q, .n l, .n c, .i s.tk, .i s.ts, .i s.to, .i s.told, .i s.tnew, .b s.td, .i s.many, .ws s.ws, .rs rs, .i T, .i S, .i K, .i G, .i Q, .n l, .n l', .i r.many, .i r.tk, .i r.ts, .i r.to, .i r.told, .i r.tnew, .b r.td, .ws r.ws, .i z1, .i z2, .i z3, .i z4, .i z5, .i z6, .i z7, .i z8, .i z9, .i z10, .i z11, .b zb]).get = (poke_t T S K G Q l c l' s r step n cc len k rs z1 z2 z3 z4 z5 z6 z7 z8 z9 z10 z11 zb).get := by kernel_rfl
/-- What is due ahead of a step is written. -/
def pokesM (T S K step : Int) : List (List Int) → MS → MS
  | [], s => s
  | p :: ps, s => pokesM T S K step ps (if p.getD 0 0 == step then mstore T S K s (p.getD 1 0) (p.getD 2 0) (p.getD 3 0) else s)
def pokeA (T S K G Q : Int) (l c l' : Nat) (s r : MS) (step : Int) (n cc : Nat) (len k : Int) (rs : List (List Int)) (z1 z2 z3 z4 z5 z6 z7 z8 z9 z10 z11 : Int) (zb : Bool) : List Atom := [.i step, .n n, .n cc, .i len, .i k, .i T, .i S, .i K, .i G, .i Q, .n l, .n c, .i s.tk, .i s.ts, .i s.to, .i s.told, .i s.tnew, .b s.td, .i s.many, .ws s.ws, .rs rs, .i T, .i S, .i K, .i G, .i Q, .n l, .n l', .i r.many, .i r.tk, .i r.ts, .i r.to, .i r.told, .i r.tnew, .b r.td, .ws r.ws, .i z1, .i z2, .i z3, .i z4, .i z5, .i z6, .i z7, .i z8, .i z9, .i z10, .i z11, .b zb]
theorem poke_run (T S K G Q : Int) (l c : Nat) (step : Int) (n cc : Nat) (rs : List (List Int)) (z1 z2 z3 z4 z5 z6 z7 z8 z9 z10 z11 : Int) (zb : Bool) (hn : rs.length = n) (hb : n ≤ 100000) : ∀ (m : Nat) (k : Int) (s r : MS), 0 ≤ k → k + m = n → rowB T S K G Q l s = true → rowB T S K G Q l r = true →
    iterR (round sumsT1 60 26 2 4 PL) (m + 1) (pokeA T S K G Q l c l s r step n cc n k rs z1 z2 z3 z4 z5 z6 z7 z8 z9 z10 z11 zb) = some (.exit 0, pokeA T S K G Q l c l (pokesM T S K step (rs.drop k.toNat) s) (pokesM T S K step (rs.drop k.toNat) r) step n cc n n rs z1 z2 z3 z4 z5 z6 z7 z8 z9 z10 z11 zb)
  | 0, k, s, r, h0, hk, hs, hr => by
    have hkn : k = n := by omega
    subst hkn
    have h1 : ¬ (n : Int) < (n : Int) := by omega
    have hd : rs.drop (n : Int).toNat = [] := List.drop_eq_nil_of_le (by omega)
    simp only [iterR, pokeA]
    rw [poke_is]
    simp only [poke_t, decide_eq_false h1, Tree.get_br, Bool.false_eq_true, if_false, Tree.get_leaf, hd, pokesM]
  | m + 1, k, s, r, h0, hk, hs, hr => by
    have h1 : k < (n : Int) := by omega
    have h2 : 0 ≤ k ∧ k < (n : Int) := ⟨h0, h1⟩
    have h3 : 0 + k.toNat < rs.length := by omega
    have h3' : k.toNat < rs.length := by omega
    have hw : IntKind.i64.wrap (k + 1) = k + 1 := by rw [IntKind.wrap_i64]; omega
    have hd : rs.drop k.toNat = rs.getD (0 + k.toNat) [] :: rs.drop (k + 1).toNat := by
      rw [List.drop_eq_getElem_cons h3', show (k + 1).toNat = k.toNat + 1 by omega, List.getD_eq_getElem?_getD, Nat.zero_add, List.getElem?_eq_getElem h3']
      rfl
    rw [iterR, show (round sumsT1 60 26 2 4 PL (pokeA T S K G Q l c l s r step n cc n k rs z1 z2 z3 z4 z5 z6 z7 z8 z9 z10 z11 zb)).get = _ from poke_is ..]
    have e1 : (0 : Nat) + 1 = 1 := rfl
    have e2 : (0 : Nat) + 1 + 1 = 2 := rfl
    have e3 : (0 : Nat) + 1 + 1 + 1 = 3 := rfl
    rw [hd, pokesM, pokesM]
    cases hc : (rs.getD (0 + k.toNat) []).getD 0 0 == step with
    | true =>
      simp only [poke_t, decide_eq_true h1, decide_eq_true h2, decide_eq_true h3, hc, hs, hr, Nat.beq_refl, Bool.and_self, Tree.get_br, if_true, Tree.get_leaf, hw, e1, e2, e3]
      exact poke_run T S K G Q l c step n cc rs z1 z2 z3 z4 z5 z6 z7 z8 z9 z10 z11 zb hn hb m (k + 1) _ _ (by omega) (by omega) (by rw [rowB_store]; exact hs) (by rw [rowB_store]; exact hr)
    | false =>
      simp only [poke_t, decide_eq_true h1, decide_eq_true h2, decide_eq_true h3, hc, Tree.get_br, if_true, Bool.false_eq_true, if_false, Tree.get_leaf, hw]
      exact poke_run T S K G Q l c step n cc rs z1 z2 z3 z4 z5 z6 z7 z8 z9 z10 z11 zb hn hb m (k + 1) _ _ (by omega) (by omega) hs hr
def poke_out : List Atom → Tree (Ex × List Atom)
  | .i step :: .n n :: .n cc :: .i len :: .i k :: .i T :: .i S :: .i K :: .i G :: .i Q :: .n l :: .n c :: .i tk :: .i ts :: .i to :: .i told :: .i tnew :: .b td :: .i many :: .ws ws :: .rs rs :: .i T' :: .i S' :: .i K' :: .i G' :: .i Q' :: .n l2 :: .n l' :: .i many' :: .i tk' :: .i ts' :: .i to' :: .i told' :: .i tnew' :: .b td' :: .ws ws' :: .i z1 :: .i z2 :: .i z3 :: .i z4 :: .i z5 :: .i z6 :: .i z7 :: .i z8 :: .i z9 :: .i z10 :: .i z11 :: .b zb :: [] =>
    .br (rowB T S K G Q l ⟨ws, many, tk, ts, to, told, tnew, td⟩ && (rowB T S K G Q l ⟨ws', many', tk', ts', to', told', tnew', td'⟩ && decide (T' = T ∧ S' = S ∧ K' = K ∧ G' = G ∧ Q' = Q ∧ l2 = l ∧ l' = l ∧ rs.length = n ∧ len = n ∧ n ≤ 100000 ∧ 0 ≤ k ∧ k ≤ n)))
    (.leaf (.exit 0, pokeA T S K G Q l c l (pokesM T S K step (rs.drop k.toNat) ⟨ws, many, tk, ts, to, told, tnew, td⟩) (pokesM T S K step (rs.drop k.toNat) ⟨ws', many', tk', ts', to', told', tnew', td'⟩) step n cc n n rs z1 z2 z3 z4 z5 z6 z7 z8 z9 z10 z11 zb)) .bad
  | _ => .bad
set_option maxRecDepth 20000 in
theorem poke_step (x : List Atom) (r : Ex × List Atom) (h : (poke_out x).get = some r) : ∃ n, iterR (round sumsT1 60 26 2 4 PL) n x = some r := by
  unfold poke_out at h
  split at h
  · rename_i step n cc len k T S K G Q l c tk ts to told tnew td many ws rs T' S' K' G' Q' l2 l' many' tk' ts' to' told' tnew' td' ws' z1 z2 z3 z4 z5 z6 z7 z8 z9 z10 z11 zb
    rw [Tree.get_br] at h
    split at h
    case isFalse => cases h
    case isTrue hg =>
    simp only [Bool.and_eq_true, decide_eq_true_eq] at hg
    obtain ⟨hs, hr, rfl, rfl, rfl, rfl, rfl, rfl, rfl, hn, rfl, hb, h0, hk⟩ := hg
    simp only [Tree.get_leaf, Option.some.injEq] at h
    subst h
    exact ⟨_, poke_run T' S' K' G' Q' l' c step n cc rs z1 z2 z3 z4 z5 z6 z7 z8 z9 z10 z11 zb hn hb ((n : Int) - k).toNat k _ _ h0 (by omega) hs hr⟩
  · cases h
theorem bodyPoked_is : bodyOf 26 = some ((bodyOf 26).getD .skip) := by kernel_rfl
noncomputable def poke_sums : Sums := withLoop sumsT1 26 2 (tlsum 4 PL poke_out)
theorem poke_ok : SumsOk poke_sums := loop_tsum sumsT1_ok bodyPoked_is (by kernel_rfl) (by decide) poke_step
def PokedF : FForm := ⟨[.ptr 0 0 none, rmem2, .slice 3 0 (some 16384), .int .i64], memB ++ [(2, 22, .ints .u64), (3, winT, .recs pokeR)], [⟨[(0, .agg [.int .i64, .int .i64, .int .i64, .int .i64, .int .u64, .slice 4 0 none, .int .i64, .int .i64, .int .i64, .int .i64, .int .u64, .int .u64, .bool])], 1, memB ++ [(3, winT, .recs pokeR), (4, 22, .ints .u64)], 5, [0, 1, 2]⟩]⟩
def pokef_t (T S K G Q : Int) (l c l' : Nat) (s r : MS) (step : Int) (n cc : Nat) (rs : List (List Int)) : Tree (Nat × List Atom) :=
  .br (rowB T S K G Q l s && (rowB T S K G Q l r && decide (T = T ∧ S = S ∧ K = K ∧ G = G ∧ Q = Q ∧ l = l ∧ l' = l ∧ rs.length = n ∧ (↑n : Int) = (↑n : Int) ∧ n ≤ (100000 : Nat) ∧ (0 : Int) ≤ (0 : Int) ∧ (0 : Int) ≤ (↑n : Int)))) (.leaf (0, [.i (T), .i (S), .i (K), .i (G), .i (Q), .n (l), .n (l), .i ((pokesM T S K step (List.drop (Int.toNat (0 : Int)) rs) r).many), .i ((pokesM T S K step (List.drop (Int.toNat (0 : Int)) rs) r).tk), .i ((pokesM T S K step (List.drop (Int.toNat (0 : Int)) rs) r).ts), .i ((pokesM T S K step (List.drop (Int.toNat (0 : Int)) rs) r).to), .i ((pokesM T S K step (List.drop (Int.toNat (0 : Int)) rs) r).told), .i ((pokesM T S K step (List.drop (Int.toNat (0 : Int)) rs) r).tnew), .b ((pokesM T S K step (List.drop (Int.toNat (0 : Int)) rs) r).td), .i (T), .i (S), .i (K), .i (G), .i (Q), .n (l), .n (c), .i ((pokesM T S K step (List.drop (Int.toNat (0 : Int)) rs) s).tk), .i ((pokesM T S K step (List.drop (Int.toNat (0 : Int)) rs) s).ts), .i ((pokesM T S K step (List.drop (Int.toNat (0 : Int)) rs) s).to), .i ((pokesM T S K step (List.drop (Int.toNat (0 : Int)) rs) s).told), .i ((pokesM T S K step (List.drop (Int.toNat (0 : Int)) rs) s).tnew), .b ((pokesM T S K step (List.drop (Int.toNat (0 : Int)) rs) s).td), .i ((pokesM T S K step (List.drop (Int.toNat (0 : Int)) rs) s).many), .ws ((pokesM T S K step (List.drop (Int.toNat (0 : Int)) rs) s).ws), .rs (rs), .ws ((pokesM T S K step (List.drop (Int.toNat (0 : Int)) rs) r).ws)])) (.bad)
theorem pokef_is (T S K G Q : Int) (l c l' : Nat) (s r : MS) (step : Int) (n cc : Nat) (rs : List (List Int)) : (endF (ev poke_sums 60 26) PokedF [.i T, .i S, .i K, .i G, .i Q, .n l, .n l', .i r.many, .i r.tk, .i r.ts, .i r.to, .i r.told, .i r.tnew, .b r.td, .n n, .n cc, .i step, .i T, .i S, .i K, .i G, .i Q, .n l, .n c, .i s.tk, .i s.ts, .i s.to, .i s.told, .i s.tnew, .b s.td, .i s.many, .ws s.ws, .ws r.ws, .rs rs]).get = (pokef_t T S K G Q l c l' s r step n cc rs).get := by kernel_rfl
def pokef_out : List Atom → Tree (Nat × List Atom)
  | .i T' :: .i S' :: .i K' :: .i G' :: .i Q' :: .n l2 :: .n l' :: .i many' :: .i tk' :: .i ts' :: .i to' :: .i told' :: .i tnew' :: .b td' :: .n n :: .n cc :: .i step :: .i T :: .i S :: .i K :: .i G :: .i Q :: .n l :: .n c :: .i tk :: .i ts :: .i to :: .i told :: .i tnew :: .b td :: .i many :: .ws ws :: .ws ws' :: .rs rs :: [] =>
    .br (rowB T S K G Q l ⟨ws, many, tk, ts, to, told, tnew, td⟩ && (rowB T S K G Q l ⟨ws', many', tk', ts', to', told', tnew', td'⟩ && decide (T' = T ∧ S' = S ∧ K' = K ∧ G' = G ∧ Q' = Q ∧ l2 = l ∧ l' = l ∧ rs.length = n ∧ n ≤ 100000)))
    (.leaf (0, [.i T, .i S, .i K, .i G, .i Q, .n l, .n l, .i ((pokesM T S K step rs ⟨ws', many', tk', ts', to', told', tnew', td'⟩).many), .i ((pokesM T S K step rs ⟨ws', many', tk', ts', to', told', tnew', td'⟩).tk), .i ((pokesM T S K step rs ⟨ws', many', tk', ts', to', told', tnew', td'⟩).ts), .i ((pokesM T S K step rs ⟨ws', many', tk', ts', to', told', tnew', td'⟩).to), .i ((pokesM T S K step rs ⟨ws', many', tk', ts', to', told', tnew', td'⟩).told), .i ((pokesM T S K step rs ⟨ws', many', tk', ts', to', told', tnew', td'⟩).tnew), .b ((pokesM T S K step rs ⟨ws', many', tk', ts', to', told', tnew', td'⟩).td), .i T, .i S, .i K, .i G, .i Q, .n l, .n c, .i ((pokesM T S K step rs ⟨ws, many, tk, ts, to, told, tnew, td⟩).tk), .i ((pokesM T S K step rs ⟨ws, many, tk, ts, to, told, tnew, td⟩).ts), .i ((pokesM T S K step rs ⟨ws, many, tk, ts, to, told, tnew, td⟩).to), .i ((pokesM T S K step rs ⟨ws, many, tk, ts, to, told, tnew, td⟩).told), .i ((pokesM T S K step rs ⟨ws, many, tk, ts, to, told, tnew, td⟩).tnew), .b ((pokesM T S K step rs ⟨ws, many, tk, ts, to, told, tnew, td⟩).td), .i ((pokesM T S K step rs ⟨ws, many, tk, ts, to, told, tnew, td⟩).many), .ws ((pokesM T S K step rs ⟨ws, many, tk, ts, to, told, tnew, td⟩).ws), .rs rs, .ws ((pokesM T S K step rs ⟨ws', many', tk', ts', to', told', tnew', td'⟩).ws)])) .bad
  | _ => .bad
theorem pokef_step (x : List Atom) (r : Nat × List Atom) (h : (pokef_out x).get = some r) : (endF (ev poke_sums 60 26) PokedF x).get = some r := by
  unfold pokef_out at h
  split at h
  · rename_i T' S' K' G' Q' l2 l' many' tk' ts' to' told' tnew' td' n cc step T S K G Q l c tk ts to told tnew td many ws ws' rs
    rw [Tree.get_br] at h
    split at h
    case isFalse => cases h
    case isTrue hg =>
    simp only [Bool.and_eq_true, decide_eq_true_eq] at hg
    obtain ⟨hs, hr, rfl, rfl, rfl, rfl, rfl, rfl, rfl, hn, hb⟩ := hg
    rw [← h]
    refine (pokef_is T' S' K' G' Q' l' c l' ⟨ws, many, tk, ts, to, told, tnew, td⟩ ⟨ws', many', tk', ts', to', told', tnew', td'⟩ step n cc rs).trans ?_
    have hx : (T' = T' ∧ S' = S' ∧ K' = K' ∧ G' = G' ∧ Q' = Q' ∧ l' = l' ∧ l' = l' ∧ rs.length = n ∧ (n : Int) = (n : Int) ∧ n ≤ (100000 : Nat) ∧ (0 : Int) ≤ (0 : Int) ∧ (0 : Int) ≤ (n : Int)) := ⟨rfl, rfl, rfl, rfl, rfl, rfl, rfl, hn, rfl, hb, by omega, by omega⟩
    unfold pokef_t
    rw [hs, hr, decide_eq_true hx]
    rfl
  · cases h
noncomputable def sumsP : Sums := withT sumsT1 26 [(PokedF, pokef_out)]
theorem sumsP_ok : SumsOk sumsP := withT_ok sumsT1_ok poke_ok 60 (by kernel_rfl) (one_t pokef_step)
end Go.Proofs.YtifojacfedjedaaGreat.Bound
