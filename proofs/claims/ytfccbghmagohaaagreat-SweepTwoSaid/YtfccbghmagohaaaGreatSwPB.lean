/- The law's own functions over words: a spot's word, words with another one, and which spot stands in a cell. No condition. The law's own functions over words: who holds it, and who goes on with it. No condition. The law's own functions over words: what they become when a slot is let go of. No condition. The law's own functions over words, as sums. No condition. -/
import Derived.Test.YtfccbghmagohaaaGreatLatQ
import Derived.Test.YtfccbghmagohaaaGreatSwPA
section
namespace Go.Proofs.YtfccbghmagohaaaGreat.Ev
/-- Only what is answered. -/
def valT (t : Tree (Value × TH × List Nat)) : Tree Value := t.bind fun r => .leaf r.1
theorem valT_out {t : Tree (Value × TH × List Nat)} {v : Value} (h : (valT t).get = some v) : outV t = some v := by
  induction t with
  | leaf r => simpa [valT, Tree.bind, outV] using h
  | bad => simp [valT, Tree.bind] at h
  | br b t e ih1 ih2 => cases b <;> simp [valT, Tree.bind, outV] at h ⊢ <;> first | exact ih1 (by simpa [valT] using h) | exact ih2 (by simpa [valT] using h)
end Go.Proofs.YtfccbghmagohaaaGreat.Ev
namespace Go.Proofs.YtfccbghmagohaaaGreat.Bound
open Go.Proofs.YtfccbghmagohaaaGreat.Ev Go.Proofs.YtfccbghmagohaaaGreat.ChartMath
set_option linter.unusedVariables false
set_option linter.unusedSimpArgs false
def oF (T S K k i : Int) : Int := IntKind.i64.wrap ((IntKind.i64.wrap (i - (ofK T S K k).1)).tdiv (ofK T S K k).2.2)
def atV (k o : Int) : Value := .agg #[.int .i64 k, .int .i64 o]
def pt_cat (T S K G Q i : Int) : PT Value := .b (decide (i < 0)) (.cs 5 (.leaf (atV 0 0))) (.cs 3 (.b (decide (i ≥ lenA T S K G Q)) (.leaf (atV 0 0)) (.cs 2 (.b (cellA T S K G Q 1 (oF T S K 1 i) == i) (.leaf (atV 1 (oF T S K 1 i))) (.cs 2 (.b (cellA T S K G Q 2 (oF T S K 2 i) == i) (.leaf (atV 2 (oF T S K 2 i))) (.cs 2 (.b (cellA T S K G Q 3 (oF T S K 3 i) == i) (.leaf (atV 3 (oF T S K 3 i))) (.cs 2 (.b (cellA T S K G Q 4 (oF T S K 4 i) == i) (.leaf (atV 4 (oF T S K 4 i))) (.cs 2 (.b (cellA T S K G Q 5 (oF T S K 5 i) == i) (.leaf (atV 5 (oF T S K 5 i))) (.cs 2 (.b (cellA T S K G Q 6 (oF T S K 6 i) == i) (.leaf (atV 6 (oF T S K 6 i))) (.cs 2 (.b (cellA T S K G Q 7 (oF T S K 7 i) == i) (.leaf (atV 7 (oF T S K 7 i))) (.cs 2 (.b (cellA T S K G Q 8 (oF T S K 8 i) == i) (.leaf (atV 8 (oF T S K 8 i))) (.cs 1 (.leaf (atV 0 0)))))))))))))))))))))
theorem ct_cat (T S K G Q i : Int) : cutP (pt_cat T S K G Q i) (valT (ev sumsF3 60 103 [.agg #[.int .i64 T, .int .i64 S, .int .i64 K, .int .i64 G, .int .u64 Q], .int .i64 i] ⟨.nil, 0⟩)) = den (pt_cat T S K G Q i) := by kernel_rfl
theorem kind_range {T S i : Int} (h0 : 0 ≤ i) : 1 ≤ kindAt T S i ∧ kindAt T S i ≤ 8 := by
  unfold kindAt; repeat' split
  all_goals omega
theorem oF_at {T S K G Q i : Int} (hR : right T S K G Q = true) (h0 : 0 ≤ i) (h1 : i < lenOf T S K) : oF T S K (kindAt T S i) i = ofAt T S i := by
  simp only [right, decide_eq_true_eq] at hR
  unfold lenOf at h1
  have w : ∀ x : Int, -1000 < x → x < 1000 → IntKind.i64.wrap x = x := fun x a b => by rw [IntKind.wrap_i64]; omega
  unfold oF kindAt ofAt
  by_cases a : i = 0
  · subst a; rfl
  by_cases b : i = 1
  · subst b; rfl
  rw [if_neg a, if_neg b, if_neg (show ¬ i < 2 by omega)]
  by_cases c : i < 2 + T
  · rw [if_pos c, if_pos c]
    show IntKind.i64.wrap ((IntKind.i64.wrap (i - 2)).tdiv 1) = _
    rw [w (i - 2) (by omega) (by omega), Int.tdiv_one, w _ (by omega) (by omega)]
  rw [if_neg c, if_neg c]
  by_cases d : i < 2 + T + 4 * S
  · rw [if_pos d, if_pos d]
    have hm : (i - 2 - T) % 4 = 0 ∨ (i - 2 - T) % 4 = 1 ∨ (i - 2 - T) % 4 = 2 ∨ (i - 2 - T) % 4 = 3 := by omega
    have key : ∀ j : Int, 0 ≤ j → j ≤ 3 → (i - 2 - T) % 4 = j → IntKind.i64.wrap ((IntKind.i64.wrap (i - IntKind.i64.wrap (IntKind.i64.wrap (IntKind.i64.wrap (2 + T) + (4 + j)) - 4))).tdiv 4) = (i - 2 - T) / 4 := by
      intro j j0 j1 hj
      rw [w (2 + T) (by omega) (by omega), w (2 + T + (4 + j)) (by omega) (by omega), w (2 + T + (4 + j) - 4) (by omega) (by omega), w (i - (2 + T + (4 + j) - 4)) (by omega) (by omega), Int.tdiv_eq_ediv_of_nonneg (by omega), w _ (by omega) (by omega)]
      omega
    rcases hm with e | e | e | e <;> rw [e]
    · exact key 0 (by omega) (by omega) e
    · exact key 1 (by omega) (by omega) e
    · exact key 2 (by omega) (by omega) e
    · exact key 3 (by omega) (by omega) e
  · rw [if_neg d, if_neg d]
    show IntKind.i64.wrap ((IntKind.i64.wrap (i - IntKind.i64.wrap (IntKind.i64.wrap (2 + T) + IntKind.i64.wrap (4 * S)))).tdiv 1) = _
    rw [w (2 + T) (by omega) (by omega), w (4 * S) (by omega) (by omega), w (2 + T + 4 * S) (by omega) (by omega), Int.tdiv_one, w (i - (2 + T + 4 * S)) (by omega) (by omega), w _ (by omega) (by omega)]
    omega
theorem cat_is {T S K G Q i : Int} (hR : right T S K G Q = true) (h0 : 0 ≤ i) (h1 : i < lenOf T S K) : outV (ev sumsF3 60 103 [.agg #[.int .i64 T, .int .i64 S, .int .i64 K, .int .i64 G, .int .u64 Q], .int .i64 i] ⟨.nil, 0⟩) = some (atV (kindAt T S i) (ofAt T S i)) := by
  refine valT_out (cut_get (ct_cat T S K G Q i) ?_)
  have hc : ∀ k o, cellA T S K G Q k o = cellOf T S K k o := fun k o => by simp only [cellA, hR, cond_true]
  have hl : ¬ i ≥ lenA T S K G Q := by simp only [lenA, hR, cond_true]; omega
  have hR' := hR
  simp only [right, decide_eq_true_eq] at hR'
  have no : ∀ k : Int, kindAt T S i ≠ k → ∀ o, (cellOf T S K k o == i) = false := by
    intro k hk o
    rw [beq_eq_false_iff_ne]
    intro e
    have := (at_cell (T := T) (S := S) (K := K) (kind := k) (of := o) (by omega) (by omega) (by omega) (by omega)).2.1
    rw [e] at this
    exact hk this
  have yes : (cellOf T S K (kindAt T S i) (oF T S K (kindAt T S i) i) == i) = true := by
    rw [oF_at hR h0 h1, cell_at h0 h1]
    exact beq_self_eq_true _
  have e2 := oF_at hR h0 h1
  simp only [pt_cat, den, Tree.get_br, Tree.get_leaf, hc, decide_eq_false hl, decide_eq_false (show ¬ i < 0 by omega), Bool.false_eq_true, if_false]
  have kr := kind_range (T := T) (S := S) h0
  rcases (show kindAt T S i = 1 ∨ kindAt T S i = 2 ∨ kindAt T S i = 3 ∨ kindAt T S i = 4 ∨ kindAt T S i = 5 ∨ kindAt T S i = 6 ∨ kindAt T S i = 7 ∨ kindAt T S i = 8 by omega) with e | e | e | e | e | e | e | e <;> rw [e] at yes e2 no ⊢ <;> rw [e2] at yes
  · simp only [e2, yes, Bool.false_eq_true, if_false, if_true]
  · simp only [no 1 (by decide), e2, yes, Bool.false_eq_true, if_false, if_true]
  · simp only [no 1 (by decide), no 2 (by decide), e2, yes, Bool.false_eq_true, if_false, if_true]
  · simp only [no 1 (by decide), no 2 (by decide), no 3 (by decide), e2, yes, Bool.false_eq_true, if_false, if_true]
  · simp only [no 1 (by decide), no 2 (by decide), no 3 (by decide), no 4 (by decide), e2, yes, Bool.false_eq_true, if_false, if_true]
  · simp only [no 1 (by decide), no 2 (by decide), no 3 (by decide), no 4 (by decide), no 5 (by decide), e2, yes, Bool.false_eq_true, if_false, if_true]
  · simp only [no 1 (by decide), no 2 (by decide), no 3 (by decide), no 4 (by decide), no 5 (by decide), no 6 (by decide), e2, yes, Bool.false_eq_true, if_false, if_true]
  · simp only [no 1 (by decide), no 2 (by decide), no 3 (by decide), no 4 (by decide), no 5 (by decide), no 6 (by decide), no 7 (by decide), e2, yes, Bool.false_eq_true, if_false, if_true]
def catS : List Value → Option (Bool × Value)
  | [.agg ⟨[.int .i64 T, .int .i64 S, .int .i64 K, .int .i64 G, .int .u64 Q]⟩, .int .i64 i] => some (right T S K G Q && decide (0 ≤ i ∧ i < lenOf T S K), atV (kindAt T S i) (ofAt T S i))
  | _ => none
theorem catS_ok {sums : Sums} (hs : SumsOk sums) : SumsOk (withIf sums 103 catS) := withIf_ok hs sumsF3_ok 60 (by kernel_rfl) fun al v h => by
  unfold catS at h
  split at h
  · rename_i T S K G Q i
    simp only [Option.some.injEq, Prod.mk.injEq, Bool.and_eq_true, decide_eq_true_eq] at h
    obtain ⟨⟨h0, h1, h2⟩, rfl⟩ := h
    exact ⟨rfl, rfl, cat_is h0 h1 h2⟩
  · cases h
/-- There are as many words as there are cells. -/
def rowL (T S K G Q : Int) (l : Nat) (ws : List Int) : Bool := right T S K G Q && (Nat.beq ws.length l && decide ((l : Int) = lenOf T S K))
theorem rowL_iff {T S K G Q : Int} {l : Nat} {ws : List Int} : rowL T S K G Q l ws = true ↔ right T S K G Q = true ∧ ws.length = l ∧ (l : Int) = lenOf T S K := by
  simp only [rowL, Bool.and_eq_true, decide_eq_true_eq, Nat.beq_eq]
theorem rowL_cell {T S K G Q : Int} {l : Nat} {ws : List Int} (h : rowL T S K G Q l ws = true) (k o : Int) : cellOf T S K k o < l := by
  obtain ⟨h0, h1, h2⟩ := rowL_iff.1 h
  simp only [right, decide_eq_true_eq] at h0
  rw [h2]
  exact cell_len (by omega) (by omega) (by omega)
def cfPt : Pat := .agg [i6, i6, i6, i6, u6]
def AtFm (t : Nat) : FForm := ⟨[cfPt, .slice 0 0 none, i6, i6], [(0, t, .ints .u64)], [⟨[(0, u6)], 1, [(0, t, .ints .u64)], 1, []⟩]⟩
def PutFm (t : Nat) : FForm := ⟨[cfPt, .slice 0 0 none, .agg [i6, i6], u6], [(0, t, .ints .u64)], [⟨[(0, .slice 1 0 none)], 1, [(0, t, .ints .u64), (1, 22, .ints .u64)], 2, []⟩]⟩
def pt_at (T S K G Q : Int) (l c : Nat) (k o : Int) (ws : List Int) : PT (Nat × List Atom) := .b (right T S K G Q) (.b (decide (0 ≤ cellOf T S K k o ∧ cellOf T S K k o < (l : Int))) (.b (decide ((0 + (cellOf T S K k o).toNat * 1) < ws.length)) (.leaf (0, [.i (ws.getD (0 + (cellOf T S K k o).toNat * 1) 0), .ws ws])) .bad) .bad) .bad
def pt_put (T S K G Q : Int) (l c : Nat) (k o v : Int) (ws : List Int) : PT (Nat × List Atom) := .b (decide (l = 0)) .bad (.b (decide (0 + l * 1 ≤ ws.length)) (.b (decide ((0 : Nat) = 0 ∧ (0 : Nat) = 0 * 1 ∧ (0 + l) * 8 ≤ 140737488355328 ∧ 0 + l ≤ 4611686018427387904)) (.b (right T S K G Q) (.b (decide (0 ≤ cellOf T S K k o ∧ cellOf T S K k o < ((0 + l : Nat) : Int))) (.b (decide ((0 + (cellOf T S K k o).toNat * 1) < ([] ++ List.take (l * 1) (List.drop 0 ws)).length)) (.leaf (0, [.n (0 + l), .n (0 + l), .ws ws, .ws (([] ++ List.take (l * 1) (List.drop 0 ws)).set (0 + (cellOf T S K k o).toNat * 1) v)])) .bad) .bad) .bad) .bad) .bad)
theorem ct_at (t : Nat) (ht : t = winT ∨ t = 22) (T S K G Q : Int) (l c : Nat) (k o : Int) (ws : List Int) : cutP (pt_at T S K G Q l c k o ws) (endF (ev sumsF3 60 24) (AtFm t) [.i T, .i S, .i K, .i G, .i Q, .n l, .n c, .i k, .i o, .ws ws]) = den (pt_at T S K G Q l c k o ws) := by
  rcases ht with rfl | rfl <;> kernel_rfl
theorem ct_put (t : Nat) (ht : t = winT ∨ t = 22) (T S K G Q : Int) (l c : Nat) (k o v : Int) (ws : List Int) : cutP (pt_put T S K G Q l c k o v ws) (endF (ev sumsF3 60 69) (PutFm t) [.i T, .i S, .i K, .i G, .i Q, .n l, .n c, .i k, .i o, .i v, .ws ws]) = den (pt_put T S K G Q l c k o v ws) := by
  rcases ht with rfl | rfl <;> kernel_rfl
def at_t : List Atom → Tree (Nat × List Atom)
  | [.i T, .i S, .i K, .i G, .i Q, .n l, .n c, .i k, .i o, .ws ws] => .br (rowL T S K G Q l ws && decide (0 ≤ cellOf T S K k o)) (.leaf (0, [.i (lat T S K ws k o), .ws ws])) .bad
  | _ => .bad
def put_t : List Atom → Tree (Nat × List Atom)
  | [.i T, .i S, .i K, .i G, .i Q, .n l, .n c, .i k, .i o, .i v, .ws ws] => .br (rowL T S K G Q l ws && decide (0 ≤ cellOf T S K k o)) (.leaf (0, [.n l, .n l, .ws ws, .ws (lset T S K ws k o v)])) .bad
  | _ => .bad
theorem at_st2 {t : Nat} (ht : t = winT ∨ t = 22) (x : List Atom) (r : Nat × List Atom) (h : (at_t x).get = some r) : (endF (ev sumsF3 60 24) (AtFm t) x).get = some r := by
  unfold at_t at h
  split at h
  · rename_i T S K G Q l c k o ws
    obtain ⟨hg, h2⟩ := get_br h
    simp only [Bool.and_eq_true, decide_eq_true_eq] at hg
    obtain ⟨h0, h1⟩ := hg
    have hc := rowL_cell h0 k o
    obtain ⟨e0, e1, e2⟩ := rowL_iff.1 h0
    refine cut_get (ct_at t ht T S K G Q l c k o ws) ?_
    rw [← h2]
    simp only [pt_at, den, Tree.get_br, Tree.get_leaf, e0, if_true, Nat.zero_add, Nat.mul_one, decide_eq_true (show 0 ≤ cellOf T S K k o ∧ cellOf T S K k o < (l : Int) from ⟨h1, hc⟩), decide_eq_true (show (cellOf T S K k o).toNat < ws.length by omega), lat, if_pos h1]
  · cases h
theorem put_st {t : Nat} (ht : t = winT ∨ t = 22) (x : List Atom) (r : Nat × List Atom) (h : (put_t x).get = some r) : (endF (ev sumsF3 60 69) (PutFm t) x).get = some r := by
  unfold put_t at h
  split at h
  · rename_i T S K G Q l c k o v ws
    obtain ⟨hg, h2⟩ := get_br h
    simp only [Bool.and_eq_true, decide_eq_true_eq] at hg
    obtain ⟨h0, h1⟩ := hg
    have hc := rowL_cell h0 k o
    obtain ⟨e0, e1, e2⟩ := rowL_iff.1 h0
    have e3 := e0
    simp only [right, decide_eq_true_eq] at e3
    unfold lenOf at e2
    have e4 : List.take l ws = ws := List.take_of_length_le (by omega)
    refine cut_get (ct_put t ht T S K G Q l c k o v ws) ?_
    rw [← h2]
    simp only [pt_put, den, Tree.get_br, Tree.get_leaf, e0, if_true, Nat.zero_add, Nat.mul_one, List.drop_zero, List.nil_append, e4, decide_eq_true (show 0 ≤ cellOf T S K k o ∧ cellOf T S K k o < (l : Int) from ⟨h1, hc⟩), decide_eq_true (show (cellOf T S K k o).toNat < ws.length by omega), decide_eq_true (show l ≤ ws.length by omega), decide_eq_false (show ¬ l = 0 by omega), Bool.false_eq_true, if_false,
      lset, if_pos h1]
    exact if_pos (decide_eq_true (show True ∧ True ∧ l * 8 ≤ 140737488355328 ∧ l ≤ 4611686018427387904 from ⟨trivial, trivial, by omega, by omega⟩))
  · cases h
/-- Words with another one, a spot's word, and a cell's spot. -/
noncomputable def withAt (sums : Sums) : Sums := withT (withT (withIf sums 103 catS) 24 [(AtFm winT, at_t), (AtFm 22, at_t)]) 69 [(PutFm winT, put_t), (PutFm 22, put_t)]
theorem withAt_ok {sums : Sums} (hs : SumsOk sums) : SumsOk (withAt sums) := by
  refine withT_ok (withT_ok (catS_ok hs) sumsF3_ok 60 (by kernel_rfl) fun a ha x r h => ?_) sumsF3_ok 60 (by kernel_rfl) fun a ha x r h => ?_
  · simp only [List.mem_cons, List.not_mem_nil, or_false] at ha
    rcases ha with rfl | rfl
    · exact at_st2 (.inl rfl) x r h
    · exact at_st2 (.inr rfl) x r h
  · simp only [List.mem_cons, List.not_mem_nil, or_false] at ha
    rcases ha with rfl | rfl
    · exact put_st (.inl rfl) x r h
    · exact put_st (.inr rfl) x r h
end Go.Proofs.YtfccbghmagohaaaGreat.Bound
end

section
namespace Go.Proofs.YtfccbghmagohaaaGreat.Bound
open Go.Proofs.YtfccbghmagohaaaGreat.Ev Go.Proofs.YtfccbghmagohaaaGreat.ChartMath
set_option linter.unusedVariables false
set_option linter.unusedSimpArgs false
noncomputable def sumsG1 : Sums := withAt sumsF3
theorem sumsG1_ok : SumsOk sumsG1 := withAt_ok sumsF3_ok
def goodB (T S K G Q : Int) (l : Nat) (ws : List Int) : Bool := rowL T S K G Q l ws && ws.all isW
theorem goodB_iff {T S K G Q : Int} {l : Nat} {ws : List Int} : goodB T S K G Q l ws = true ↔ Good T S K G Q l ws := by
  simp only [goodB, Bool.and_eq_true, rowL_iff, List.all_eq_true, isW_iff]
  exact ⟨fun ⟨⟨a, b, c⟩, d⟩ => ⟨a, b, c, d⟩, fun ⟨a, b, c, d⟩ => ⟨⟨a, b, c⟩, d⟩⟩
def mkP (T S K th sl : Int) : Pm := ⟨T, S, K, 0, 0, th, sl, 0, 0, 0⟩
def cfB1 : CPat := .vals [i6, i6, i6, i6, u6]
def hB (t : Nat) : List (Nat × TypeId × CPat) := [(0, t, .ints .u64), (1, 24, cfB1)]
def hB1 (t : Nat) : List (Nat × TypeId × CPat) := [(0, t, .ints .u64)]
def heL (t n : Nat) : LForm := ⟨[1, 2, 3, 4, 12, 13], ⟨[(1, .slice 0 0 none), (2, i6), (3, u6), (4, .ptr 1 0 none), (12, i6), (13, i6)], n, hB t, 2, []⟩, [8], [(0, ⟨[], n, hB1 t, 1, []⟩)], [⟨[(8, .bool)], n, hB1 t, 1, []⟩]⟩
def hA (T S K G Q own r bound k : Int) (l c : Nat) (ws : List Int) : List Atom := [.n l, .n c, .i own, .i r, .i bound, .i k, .ws ws, .i T, .i S, .i K, .i G, .i Q]
def pt_he (T S K G Q own r bound k : Int) (l c : Nat) (ws : List Int) : PT (Ex × List Atom) := .b (decide (k < bound)) (.b (rowL T S K G Q l ws && decide (0 ≤ cellOf T S K 3 k)) (.b (k != own) (.cs 1 (.b (bif true then lat T S K ws 3 k != 0 else false) (.cs 3 (.b (bif true then decide (IntKind.u64.wrap (lat T S K ws 3 k - 1) ≤ r) else false) (.leaf (.ret, [.b true, .ws ws])) (.leaf (.normal, hA T S K G Q own r bound (IntKind.i64.wrap (k + 1)) l c ws)))) (.cs 5 (.leaf (.normal, hA T S K G Q own r bound (IntKind.i64.wrap (k + 1)) l c ws))))) (.cs 8 (.leaf (.normal, hA T S K G Q own r bound (IntKind.i64.wrap (k + 1)) l c ws)))) .bad) (.leaf (.exit 0, [.ws ws]))
theorem ct_he0 (T S K G Q own r bound k : Int) (l c : Nat) (ws : List Int) : cutP (pt_he T S K G Q own r bound k l c ws) (round sumsG1 60 67 2 1 (heL winT 34) (hA T S K G Q own r bound k l c ws)) = den (pt_he T S K G Q own r bound k l c ws) := by kernel_rfl
theorem ct_he1 (T S K G Q own r bound k : Int) (l c : Nat) (ws : List Int) : cutP (pt_he T S K G Q own r bound k l c ws) (round sumsG1 60 67 2 1 (heL 22 34) (hA T S K G Q own r bound k l c ws)) = den (pt_he T S K G Q own r bound k l c ws) := by kernel_rfl
def he_t : List Atom → Tree (Ex × List Atom)
  | [.n l, .n c, .i own, .i r, .i bound, .i k, .ws ws, .i T, .i S, .i K, .i G, .i Q] => .br (goodB T S K G Q l ws && decide (0 ≤ k ∧ bound = T)) (.br (heldF (mkP T S K own 0) ws own r (T - k).toNat k) (.leaf (.ret, [.b true, .ws ws])) (.leaf (.exit 0, [.ws ws]))) .bad
  | _ => .bad
theorem he_iter {t : Nat} (ct : ∀ (T S K G Q own r bound k : Int) (l c : Nat) (ws : List Int), cutP (pt_he T S K G Q own r bound k l c ws) (round sumsG1 60 67 2 1 (heL t 34) (hA T S K G Q own r bound k l c ws)) = den (pt_he T S K G Q own r bound k l c ws))
    {T S K G Q own r : Int} {l c : Nat} {ws : List Int} (hg : Good T S K G Q l ws) : ∀ (n : Nat) (k : Int), (T - k).toNat = n → 0 ≤ k →
    ∃ j, iterR (round sumsG1 60 67 2 1 (heL t 34)) j (hA T S K G Q own r T k l c ws) = some (if heldF (mkP T S K own 0) ws own r n k = true then (.ret, [.b true, .ws ws]) else (.exit 0, [.ws ws]))
  | 0, k, hn, h0 => by
    refine ⟨1, ?_⟩
    have e : (round sumsG1 60 67 2 1 (heL t 34) (hA T S K G Q own r T k l c ws)).get = some (.exit 0, [.ws ws]) := cut_get (ct T S K G Q own r T k l c ws) (by
      simp only [pt_he, den, Tree.get_br, Tree.get_leaf, decide_eq_false (show ¬ k < T by omega), Bool.false_eq_true, if_false])
    simp only [iterR, e, heldF, Bool.false_eq_true, if_false]
  | n + 1, k, hn, h0 => by
    have hc := hg.cfg
    have hk : k < T := by omega
    have hw := hg.lat 3 k
    have hr : rowL T S K G Q l ws = true := rowL_iff.2 ⟨hg.right, hg.len, hg.ll⟩
    have hcell : 0 ≤ cellOf T S K 3 k := by rw [cell_pin h0 hk]; omega
    have w1 := wr_s (a := k) (by omega) (by omega)
    obtain ⟨j, hj⟩ := he_iter ct hg n (k + 1) (by omega) (by omega)
    have next : heldF (mkP T S K own 0) ws own r (n + 1) k = heldF (mkP T S K own 0) ws own r n (k + 1) → (round sumsG1 60 67 2 1 (heL t 34) (hA T S K G Q own r T k l c ws)).get = some (.normal, hA T S K G Q own r T (k + 1) l c ws) → ∃ j, iterR (round sumsG1 60 67 2 1 (heL t 34)) j (hA T S K G Q own r T k l c ws) = some (if heldF (mkP T S K own 0) ws own r (n + 1) k = true then (.ret, [.b true, .ws ws]) else (.exit 0, [.ws ws])) := by
      intro e1 e2
      refine ⟨j + 1, ?_⟩
      simp only [iterR, e2]
      rw [hj, e1]
    by_cases e1 : k = own
    · refine next ?_ (cut_get (ct T S K G Q own r T k l c ws) ?_)
      · simp only [heldF]; rw [decide_eq_false (fun x => x.1 e1), Bool.false_or]
      · simp only [pt_he, den, Tree.get_br, Tree.get_leaf, decide_eq_true hk, hr, decide_eq_true hcell, Bool.and_self, if_true, w1]
        rw [if_neg (by simp [e1])]
    have n1 : (k != own) = true := by simp [e1]
    by_cases e2 : lat T S K ws 3 k = 0
    · refine next ?_ (cut_get (ct T S K G Q own r T k l c ws) ?_)
      · simp only [heldF]; rw [decide_eq_false (fun x => x.2.1 e2), Bool.false_or]
      · simp only [pt_he, den, Tree.get_br, Tree.get_leaf, decide_eq_true hk, hr, decide_eq_true hcell, Bool.and_self, if_true, w1, n1, e2, cond_true, bne_self_eq_false, Bool.false_eq_true, if_false]
    have n2 : (lat T S K ws 3 k != 0) = true := by simp [e2]
    have eu : IntKind.u64.wrap (lat T S K ws 3 k - 1) = lat T S K ws 3 k - 1 := wrap_id (by omega) (by omega)
    by_cases e3 : lat T S K ws 3 k - 1 ≤ r
    · refine ⟨1, ?_⟩
      have e : (round sumsG1 60 67 2 1 (heL t 34) (hA T S K G Q own r T k l c ws)).get = some (.ret, [.b true, .ws ws]) := cut_get (ct T S K G Q own r T k l c ws) (by
        simp only [pt_he, den, Tree.get_br, Tree.get_leaf, decide_eq_true hk, hr, decide_eq_true hcell, Bool.and_self, if_true, w1, n1, n2, cond_true, eu, decide_eq_true e3])
      have e' : heldF (mkP T S K own 0) ws own r (n + 1) k = true := by
        simp only [heldF]; rw [decide_eq_true ⟨e1, e2, e3⟩, Bool.true_or]
      simp only [iterR, e, e', if_true]
    · refine next ?_ (cut_get (ct T S K G Q own r T k l c ws) ?_)
      · simp only [heldF]; rw [decide_eq_false (fun x => e3 x.2.2), Bool.false_or]
      · simp only [pt_he, den, Tree.get_br, Tree.get_leaf, decide_eq_true hk, hr, decide_eq_true hcell, Bool.and_self, if_true, w1, n1, n2, cond_true, eu, decide_eq_false e3, Bool.false_eq_true, if_false]
theorem he_step {t : Nat} (ct : ∀ (T S K G Q own r bound k : Int) (l c : Nat) (ws : List Int), cutP (pt_he T S K G Q own r bound k l c ws) (round sumsG1 60 67 2 1 (heL t 34) (hA T S K G Q own r bound k l c ws)) = den (pt_he T S K G Q own r bound k l c ws))
    (x : List Atom) (res : Ex × List Atom) (h : (he_t x).get = some res) : ∃ n, iterR (round sumsG1 60 67 2 1 (heL t 34)) n x = some res := by
  unfold he_t at h
  split at h
  · rename_i l c own r bound k ws T S K G Q
    obtain ⟨hg, h2⟩ := get_br h
    simp only [Bool.and_eq_true, decide_eq_true_eq] at hg
    obtain ⟨h0, h1, hb⟩ := hg
    subst hb
    obtain ⟨j, hj⟩ := he_iter ct (goodB_iff.1 h0) (own := own) (r := r) (c := c) _ k rfl h1
    refine ⟨j, hj.trans ?_⟩
    rw [← h2, Tree.get_br]
    split <;> rfl
  · cases h
def pt_la (T S K G Q own r bound k : Int) (l c : Nat) (ws : List Int) : PT (Ex × List Atom) := .b (decide (k < bound)) (.b (rowL T S K G Q l ws && decide (0 ≤ cellOf T S K 4 k)) (.b (isW (lat T S K ws 4 k)) (.b (k != own) (.cs 2 (.b (stI (lat T S K ws 4 k) == 1) (.cs 8 (.leaf (.ret, [.b true, .ws ws]))) (.cs 2 (.b (stI (lat T S K ws 4 k) == 2) (.cs 8 (.b (rowL T S K G Q l ws && decide (0 ≤ cellOf T S K 5 k)) (.cs 4 (.b (bif true then bif false then true else bif true then decide (lat T S K ws 5 k < r) else false else false) (.leaf (.ret, [.b true, .ws ws])) (.leaf (.normal, hA T S K G Q own r bound (IntKind.i64.wrap (k + 1)) l c ws)))) .bad)) (.cs 3 (.b (stI (lat T S K ws 4 k) == 3) (.cs 3 (.b (rowL T S K G Q l ws && decide (0 ≤ cellOf T S K 5 k)) (.cs 4 (.b (bif true then bif false then true else bif true then decide (lat T S K ws 5 k < r) else false else false) (.leaf (.ret, [.b true, .ws ws])) (.leaf (.normal, hA T S K G Q own r bound (IntKind.i64.wrap (k + 1)) l c ws)))) .bad)) (.cs 9 (.leaf (.normal, hA T S K G Q own r bound (IntKind.i64.wrap (k + 1)) l c ws))))))))) (.cs 5 (.leaf (.normal, hA T S K G Q own r bound (IntKind.i64.wrap (k + 1)) l c ws)))) .bad) .bad) (.leaf (.exit 0, [.ws ws]))
theorem ct_la (T S K G Q own r bound k : Int) (l c : Nat) (ws : List Int) : cutP (pt_la T S K G Q own r bound k l c ws) (round sumsG1 60 65 2 1 (heL winT 45) (hA T S K G Q own r bound k l c ws)) = den (pt_la T S K G Q own r bound k l c ws) := by kernel_rfl
def la_t : List Atom → Tree (Ex × List Atom)
  | [.n l, .n c, .i own, .i r, .i bound, .i k, .ws ws, .i T, .i S, .i K, .i G, .i Q] => .br (goodB T S K G Q l ws && decide (0 ≤ k ∧ bound = S)) (.br (laterF (mkP T S K 0 own) ws own r (S - k).toNat k) (.leaf (.ret, [.b true, .ws ws])) (.leaf (.exit 0, [.ws ws]))) .bad
  | _ => .bad
theorem la_iter {T S K G Q own r : Int} {l c : Nat} {ws : List Int} (hg : Good T S K G Q l ws) : ∀ (n : Nat) (k : Int), (S - k).toNat = n → 0 ≤ k →
    ∃ j, iterR (round sumsG1 60 65 2 1 (heL winT 45)) j (hA T S K G Q own r S k l c ws) = some (if laterF (mkP T S K 0 own) ws own r n k = true then (.ret, [.b true, .ws ws]) else (.exit 0, [.ws ws]))
  | 0, k, hn, h0 => by
    refine ⟨1, ?_⟩
    have e : (round sumsG1 60 65 2 1 (heL winT 45) (hA T S K G Q own r S k l c ws)).get = some (.exit 0, [.ws ws]) := cut_get (ct_la T S K G Q own r S k l c ws) (by
      simp only [pt_la, den, Tree.get_br, Tree.get_leaf, decide_eq_false (show ¬ k < S by omega), Bool.false_eq_true, if_false])
    simp only [iterR, e, laterF, Bool.false_eq_true, if_false]
  | n + 1, k, hn, h0 => by
    have hc := hg.cfg
    have hk : k < S := by omega
    have hw := hg.isW 4 k
    have hr : rowL T S K G Q l ws = true := rowL_iff.2 ⟨hg.right, hg.len, hg.ll⟩
    have hcell : 0 ≤ cellOf T S K 4 k := by rw [cell_st (by omega) (by omega) h0 hk]; omega
    have hcel5 : 0 ≤ cellOf T S K 5 k := by rw [cell_st (by omega) (by omega) h0 hk]; omega
    have w1 := wr_s (a := k) (by omega) (by omega)
    obtain ⟨j, hj⟩ := la_iter hg n (k + 1) (by omega) (by omega)
    have next : ¬ (k ≠ own ∧ (stI (lat T S K ws 4 k) = 1 ∨ (stI (lat T S K ws 4 k) = 2 ∨ stI (lat T S K ws 4 k) = 3) ∧ lat T S K ws 5 k < r)) → (round sumsG1 60 65 2 1 (heL winT 45) (hA T S K G Q own r S k l c ws)).get = some (.normal, hA T S K G Q own r S (k + 1) l c ws) → ∃ j, iterR (round sumsG1 60 65 2 1 (heL winT 45)) j (hA T S K G Q own r S k l c ws) = some (if laterF (mkP T S K 0 own) ws own r (n + 1) k = true then (.ret, [.b true, .ws ws]) else (.exit 0, [.ws ws])) := by
      intro e1 e2
      refine ⟨j + 1, ?_⟩
      have el : laterF (mkP T S K 0 own) ws own r (n + 1) k = laterF (mkP T S K 0 own) ws own r n (k + 1) := by
        simp only [laterF]
        rw [decide_eq_false (show ¬ (k ≠ own ∧ (stI ((mkP T S K 0 own).at ws 4 k) = 1 ∨ (stI ((mkP T S K 0 own).at ws 4 k) = 2 ∨ stI ((mkP T S K 0 own).at ws 4 k) = 3) ∧ (mkP T S K 0 own).at ws 5 k < r)) from e1), Bool.false_or]
      simp only [iterR, e2]
      rw [hj, el]
    have last : (k ≠ own ∧ (stI (lat T S K ws 4 k) = 1 ∨ (stI (lat T S K ws 4 k) = 2 ∨ stI (lat T S K ws 4 k) = 3) ∧ lat T S K ws 5 k < r)) → (round sumsG1 60 65 2 1 (heL winT 45) (hA T S K G Q own r S k l c ws)).get = some (.ret, [.b true, .ws ws]) → ∃ j, iterR (round sumsG1 60 65 2 1 (heL winT 45)) j (hA T S K G Q own r S k l c ws) = some (if laterF (mkP T S K 0 own) ws own r (n + 1) k = true then (.ret, [.b true, .ws ws]) else (.exit 0, [.ws ws])) := by
      intro e1 e2
      refine ⟨1, ?_⟩
      have el : laterF (mkP T S K 0 own) ws own r (n + 1) k = true := by
        simp only [laterF]
        rw [decide_eq_true (show (k ≠ own ∧ (stI ((mkP T S K 0 own).at ws 4 k) = 1 ∨ (stI ((mkP T S K 0 own).at ws 4 k) = 2 ∨ stI ((mkP T S K 0 own).at ws 4 k) = 3) ∧ (mkP T S K 0 own).at ws 5 k < r)) from e1), Bool.true_or]
      simp only [iterR, e2, el, if_true]
    by_cases e1 : k = own
    · refine next (fun x => x.1 e1) (cut_get (ct_la T S K G Q own r S k l c ws) ?_)
      simp only [pt_la, den, Tree.get_br, Tree.get_leaf, decide_eq_true hk, hr, hw, decide_eq_true hcell, Bool.and_self, if_true, w1]
      rw [if_neg (by simp [e1])]
    have n1 : (k != own) = true := by simp [e1]
    by_cases e2 : stI (lat T S K ws 4 k) = 1
    · refine last ⟨e1, .inl e2⟩ (cut_get (ct_la T S K G Q own r S k l c ws) ?_)
      simp only [pt_la, den, Tree.get_br, Tree.get_leaf, decide_eq_true hk, hr, hw, decide_eq_true hcell, Bool.and_self, if_true, w1, n1, e2, beq_self_eq_true]
    have n2 : (stI (lat T S K ws 4 k) == 1) = false := by simp [e2]
    by_cases e3 : stI (lat T S K ws 4 k) = 2
    · by_cases e5 : lat T S K ws 5 k < r
      · refine last ⟨e1, .inr ⟨.inl e3, e5⟩⟩ (cut_get (ct_la T S K G Q own r S k l c ws) ?_)
        simp only [pt_la, den, Tree.get_br, Tree.get_leaf, decide_eq_true hk, hr, hw, decide_eq_true hcell, decide_eq_true hcel5, Bool.and_self, if_true, w1, n1, n2, e3, beq_self_eq_true, cond_true, cond_false, decide_eq_true e5, Bool.false_eq_true, if_false, show ((2 : Int) == 1) = false from rfl]
      · refine next (fun x => x.2.elim e2 fun y => e5 y.2) (cut_get (ct_la T S K G Q own r S k l c ws) ?_)
        simp only [pt_la, den, Tree.get_br, Tree.get_leaf, decide_eq_true hk, hr, hw, decide_eq_true hcell, decide_eq_true hcel5, Bool.and_self, if_true, w1, n1, n2, e3, beq_self_eq_true, cond_true, cond_false, decide_eq_false e5, Bool.false_eq_true, if_false, show ((2 : Int) == 1) = false from rfl]
    have n3 : (stI (lat T S K ws 4 k) == 2) = false := by simp [e3]
    by_cases e4 : stI (lat T S K ws 4 k) = 3
    · by_cases e5 : lat T S K ws 5 k < r
      · refine last ⟨e1, .inr ⟨.inr e4, e5⟩⟩ (cut_get (ct_la T S K G Q own r S k l c ws) ?_)
        simp only [pt_la, den, Tree.get_br, Tree.get_leaf, decide_eq_true hk, hr, hw, decide_eq_true hcell, decide_eq_true hcel5, Bool.and_self, if_true, w1, n1, e4, beq_self_eq_true, cond_true, cond_false, decide_eq_true e5, Bool.false_eq_true, if_false, show ((3 : Int) == 1) = false from rfl, show ((3 : Int) == 2) = false from rfl]
      · refine next (fun x => x.2.elim e2 fun y => e5 y.2) (cut_get (ct_la T S K G Q own r S k l c ws) ?_)
        simp only [pt_la, den, Tree.get_br, Tree.get_leaf, decide_eq_true hk, hr, hw, decide_eq_true hcell, decide_eq_true hcel5, Bool.and_self, if_true, w1, n1, e4, beq_self_eq_true, cond_true, cond_false, decide_eq_false e5, Bool.false_eq_true, if_false, show ((3 : Int) == 1) = false from rfl, show ((3 : Int) == 2) = false from rfl]
    have n4 : (stI (lat T S K ws 4 k) == 3) = false := by simp [e4]
    refine next (fun x => x.2.elim e2 fun y => y.1.elim e3 e4) (cut_get (ct_la T S K G Q own r S k l c ws) ?_)
    simp only [pt_la, den, Tree.get_br, Tree.get_leaf, decide_eq_true hk, hr, hw, decide_eq_true hcell, Bool.and_self, if_true, w1, n1, n2, n3, n4, Bool.false_eq_true, if_false]
theorem la_step (x : List Atom) (res : Ex × List Atom) (h : (la_t x).get = some res) : ∃ n, iterR (round sumsG1 60 65 2 1 (heL winT 45)) n x = some res := by
  unfold la_t at h
  split at h
  · rename_i l c own r bound k ws T S K G Q
    obtain ⟨hg, h2⟩ := get_br h
    simp only [Bool.and_eq_true, decide_eq_true_eq] at hg
    obtain ⟨h0, h1, hb⟩ := hg
    subst hb
    obtain ⟨j, hj⟩ := la_iter (goodB_iff.1 h0) (own := own) (r := r) (c := c) _ k rfl h1
    refine ⟨j, hj.trans ?_⟩
    rw [← h2, Tree.get_br]
    split <;> rfl
  · cases h
end Go.Proofs.YtfccbghmagohaaaGreat.Bound
end

section
namespace Go.Proofs.YtfccbghmagohaaaGreat.Bound
open Go.Proofs.YtfccbghmagohaaaGreat.Ev Go.Proofs.YtfccbghmagohaaaGreat.ChartMath
set_option linter.unusedVariables false
set_option linter.unusedSimpArgs false
/-- A function of two forms, each by its own sums. -/
noncomputable def withOr (sums : Sums) (f : Nat) (F1 F2 : FForm) (o1 o2 : List Atom → Tree (Nat × List Atom)) : Sums := withCall sums f (canon (orSum (fun args H => (matF F1 args H).isSome) (tsum F1 o1) (tsum F2 o2)))
theorem withOr_ok {sums s1 s2 : Sums} {f : Nat} {F1 F2 : FForm} {o1 o2 : List Atom → Tree (Nat × List Atom)} (h : SumsOk sums) (h1 : SumsOk s1) (h2 : SumsOk s2) (hf : (fns f).isSome = true)
    (e1 : ∀ x r, (o1 x).get = some r → (endF (ev s1 60 f) F1 x).get = some r) (e2 : ∀ x r, (o2 x).get = some r → (endF (ev s2 60 f) F2 x).get = some r) : SumsOk (withOr sums f F1 F2 o1 o2) :=
  withCall_ok h (canon_ok (orSum_ok (tsum_ok (ev_sound h1 60 _) e1) (tsum_ok (ev_sound h2 60 _) e2))) hf
theorem bodyHe_is : bodyOf 67 = some ((bodyOf 67).getD .skip) := by kernel_rfl
theorem keysHe_is : keysOk (loopsIn ((bodyOf 67).getD .skip)) = true := by kernel_rfl
theorem bodyLa_is : bodyOf 65 = some ((bodyOf 65).getD .skip) := by kernel_rfl
theorem keysLa_is : keysOk (loopsIn ((bodyOf 65).getD .skip)) = true := by kernel_rfl
noncomputable def sumsH (t : Nat) : Sums := withLoop sumsG1 67 2 (tlsum 1 (heL t 34) he_t)
theorem sumsH0_ok : SumsOk (sumsH winT) := loop_tsum (fuel := 60) sumsG1_ok bodyHe_is keysHe_is (by show (1 : Nat) ≤ 2; omega) (he_step ct_he0)
theorem sumsH1_ok : SumsOk (sumsH 22) := loop_tsum (fuel := 60) sumsG1_ok bodyHe_is keysHe_is (by show (1 : Nat) ≤ 2; omega) (he_step ct_he1)
noncomputable def sumsLa : Sums := withLoop sumsG1 65 2 (tlsum 1 (heL winT 45) la_t)
theorem sumsLa_ok : SumsOk sumsLa := loop_tsum (fuel := 60) sumsG1_ok bodyLa_is keysLa_is (by show (1 : Nat) ≤ 2; omega) la_step
def HeF (t : Nat) : FForm := ⟨[cfPt, .slice 0 0 none, i6, u6], hB1 t, [⟨[(0, .bool)], 1, hB1 t, 1, []⟩]⟩
def LaF (t : Nat) : FForm := ⟨[cfPt, .slice 0 0 none, i6, u6], hB1 t, [⟨[(0, .bool)], 1, hB1 t, 1, []⟩]⟩
def he_o : List Atom → Tree (Nat × List Atom)
  | [.i T, .i S, .i K, .i G, .i Q, .n l, .n c, .i own, .i r, .ws ws] => .br (goodB T S K G Q l ws && decide (0 ≤ (0 : Int) ∧ T = T)) (.br (heldF (mkP T S K own 0) ws own r (T - 0).toNat 0) (.leaf (0, [.b true, .ws ws])) (.leaf (0, [.b false, .ws ws]))) .bad
  | _ => .bad
def la_o : List Atom → Tree (Nat × List Atom)
  | [.i T, .i S, .i K, .i G, .i Q, .n l, .n c, .i own, .i r, .ws ws] => .br (goodB T S K G Q l ws && decide (0 ≤ (0 : Int) ∧ S = S)) (.br (laterF (mkP T S K 0 own) ws own r (S - 0).toNat 0) (.leaf (0, [.b true, .ws ws])) (.leaf (0, [.b false, .ws ws]))) .bad
  | _ => .bad
theorem he_e0 (T S K G Q : Int) (l c : Nat) (own r : Int) (ws : List Int) : (endF (ev (sumsH winT) 60 67) (HeF winT) [.i T, .i S, .i K, .i G, .i Q, .n l, .n c, .i own, .i r, .ws ws]).get = (he_o [.i T, .i S, .i K, .i G, .i Q, .n l, .n c, .i own, .i r, .ws ws]).get := by kernel_rfl
theorem he_e1 (T S K G Q : Int) (l c : Nat) (own r : Int) (ws : List Int) : (endF (ev (sumsH 22) 60 67) (HeF 22) [.i T, .i S, .i K, .i G, .i Q, .n l, .n c, .i own, .i r, .ws ws]).get = (he_o [.i T, .i S, .i K, .i G, .i Q, .n l, .n c, .i own, .i r, .ws ws]).get := by kernel_rfl
theorem la_e (T S K G Q : Int) (l c : Nat) (own r : Int) (ws : List Int) : (endF (ev sumsLa 60 65) (LaF winT) [.i T, .i S, .i K, .i G, .i Q, .n l, .n c, .i own, .i r, .ws ws]).get = (la_o [.i T, .i S, .i K, .i G, .i Q, .n l, .n c, .i own, .i r, .ws ws]).get := by kernel_rfl
/-- Words without a slot, cell by cell. -/
def newV (T S sl : Int) (g : Bool) (k v : Int) : Int := if kindAt T S k = 8 then dropM v sl else if kindAt T S k = 4 ∧ ofAt T S k ≠ sl then dropW v sl g else v
def dropF (T S sl : Int) (g : Bool) (ws : List Int) : Nat → Int → List Int → List Int
  | 0, _, vs => vs
  | n + 1, k, vs => dropF T S sl g ws n (k + 1) (vs.set k.toNat (newV T S sl g k (ws.getD k.toNat 0)))
def drL (t : Nat) : LForm := ⟨[1, 2, 3, 7, 14, 15, 16], ⟨[(1, .slice 0 0 none), (2, i6), (3, .ptr 1 0 none), (7, .slice 2 0 none), (14, .slice 0 0 none), (15, i6), (16, i6)], 55, hB t ++ [(2, 22, .ints .u64)], 3, []⟩, [7], [(0, ⟨[(7, .slice 1 0 none)], 55, hB1 t ++ [(1, 22, .ints .u64)], 2, []⟩)], []⟩
def drA (T S K G Q sl bound k : Int) (l c l1 c1 l2 c2 : Nat) (ws vs : List Int) : List Atom := [.n l, .n c, .i sl, .n l1, .n c1, .n l2, .n c2, .i bound, .i k, .ws ws, .i T, .i S, .i K, .i G, .i Q, .ws vs]
def pt_dr (T S K G Q sl bound k : Int) (l c l1 c1 l2 c2 : Nat) (ws vs : List Int) : PT (Ex × List Atom) := .b (decide (k < bound)) (.b (decide (0 ≤ k ∧ k < (l2 : Int))) (.b (decide ((0 + k.toNat * 1) < ws.length)) (.b (right T S K G Q && decide (0 ≤ k ∧ k < lenOf T S K)) (.b (kindAt T S k == 8)
  (.b (isW (ws.getD (0 + k.toNat * 1) 0) && decide (0 ≤ sl ∧ sl ≤ 11)) (.b (decide (0 ≤ k ∧ k < (l1 : Int))) (.b (decide ((0 + k.toNat * 1) < vs.length)) (.b (kindAt T S k == 4) .bad (.cs 5 (.leaf (.normal, drA T S K G Q sl bound (IntKind.i64.wrap (k + 1)) l c l1 c1 l2 c2 ws (vs.set (0 + k.toNat * 1) (dropM (ws.getD (0 + k.toNat * 1) 0) sl)))))) .bad) .bad) .bad)
  (.b (kindAt T S k == 4) (.cs 3 (.b (bif true then ofAt T S k != sl else false) (.b (rowL T S K G Q l ws && decide (0 ≤ cellOf T S K 6 sl)) (.b (isW (ws.getD (0 + k.toNat * 1) 0) && decide (0 ≤ sl ∧ sl ≤ 11)) (.b (decide (0 ≤ k ∧ k < (l1 : Int))) (.b (decide ((0 + k.toNat * 1) < vs.length)) (.leaf (.normal, drA T S K G Q sl bound (IntKind.i64.wrap (k + 1)) l c l1 c1 l2 c2 ws (vs.set (0 + k.toNat * 1) (dropW (ws.getD (0 + k.toNat * 1) 0) sl (lat T S K ws 6 sl != 0))))) .bad) .bad) .bad) .bad) (.leaf (.normal, drA T S K G Q sl bound (IntKind.i64.wrap (k + 1)) l c l1 c1 l2 c2 ws vs))))
    (.cs 5 (.leaf (.normal, drA T S K G Q sl bound (IntKind.i64.wrap (k + 1)) l c l1 c1 l2 c2 ws vs))))) .bad) .bad) .bad) (.leaf (.exit 0, [.n l1, .n c1, .ws ws, .ws vs]))
theorem ct_dr0 (T S K G Q sl bound k : Int) (l c l1 c1 l2 c2 : Nat) (ws vs : List Int) : cutP (pt_dr T S K G Q sl bound k l c l1 c1 l2 c2 ws vs) (round sumsG1 60 68 3 1 (drL winT) (drA T S K G Q sl bound k l c l1 c1 l2 c2 ws vs)) = den (pt_dr T S K G Q sl bound k l c l1 c1 l2 c2 ws vs) := by kernel_rfl
theorem ct_dr1 (T S K G Q sl bound k : Int) (l c l1 c1 l2 c2 : Nat) (ws vs : List Int) : cutP (pt_dr T S K G Q sl bound k l c l1 c1 l2 c2 ws vs) (round sumsG1 60 68 3 1 (drL 22) (drA T S K G Q sl bound k l c l1 c1 l2 c2 ws vs)) = den (pt_dr T S K G Q sl bound k l c l1 c1 l2 c2 ws vs) := by kernel_rfl
def dr_t : List Atom → Tree (Ex × List Atom)
  | [.n l, .n c, .i sl, .n l1, .n c1, .n l2, .n c2, .i bound, .i k, .ws ws, .i T, .i S, .i K, .i G, .i Q, .ws vs] => .br (goodB T S K G Q l ws && decide (k = 0 ∧ bound = (l : Int) ∧ l1 = l ∧ l2 = l ∧ vs = ws ∧ 0 ≤ sl ∧ sl < S)) (.leaf (.exit 0, [.n l, .n c1, .ws ws, .ws (dropF T S sl (lat T S K ws 6 sl != 0) ws l 0 ws)])) .bad
  | _ => .bad
theorem dr_iter {t : Nat} (ct : ∀ (T S K G Q sl bound k : Int) (l c l1 c1 l2 c2 : Nat) (ws vs : List Int), cutP (pt_dr T S K G Q sl bound k l c l1 c1 l2 c2 ws vs) (round sumsG1 60 68 3 1 (drL t) (drA T S K G Q sl bound k l c l1 c1 l2 c2 ws vs)) = den (pt_dr T S K G Q sl bound k l c l1 c1 l2 c2 ws vs))
    {T S K G Q sl : Int} {l c c1 c2 : Nat} {ws : List Int} (hg : Good T S K G Q l ws) (hs : 0 ≤ sl ∧ sl < S) : ∀ (n : Nat) (k : Int) (vs : List Int), ((l : Int) - k).toNat = n → 0 ≤ k → vs.length = l → (∀ j : Nat, k.toNat ≤ j → vs[j]? = ws[j]?) →
    ∃ j, iterR (round sumsG1 60 68 3 1 (drL t)) j (drA T S K G Q sl l k l c l c1 l c2 ws vs) = some (.exit 0, [.n l, .n c1, .ws ws, .ws (dropF T S sl (lat T S K ws 6 sl != 0) ws n k vs)])
  | 0, k, vs, hn, h0, hv, hq => by
    refine ⟨1, ?_⟩
    have e : (round sumsG1 60 68 3 1 (drL t) (drA T S K G Q sl l k l c l c1 l c2 ws vs)).get = some (.exit 0, [.n l, .n c1, .ws ws, .ws vs]) := cut_get (ct T S K G Q sl l k l c l c1 l c2 ws vs) (by
      simp only [pt_dr, den, Tree.get_br, Tree.get_leaf, decide_eq_false (show ¬ k < (l : Int) by omega), Bool.false_eq_true, if_false])
    simp only [iterR, e, dropF]
  | n + 1, k, vs, hn, h0, hv, hq => by
    have hc := hg.cfg
    have hk : k < (l : Int) := by omega
    have hll := hg.ll
    have hlo : lenOf T S K = 2 + T + 4 * S + K := rfl
    have hlen := hg.len
    have hr : rowL T S K G Q l ws = true := rowL_iff.2 ⟨hg.right, hg.len, hg.ll⟩
    have hcell : 0 ≤ cellOf T S K 6 sl := by rw [cell_st (by omega) (by omega) hs.1 hs.2]; omega
    have w1 := wr_s (a := k) (by omega) (by omega)
    have hw : isW (ws.getD k.toNat 0) = true := by
      rw [List.getD_eq_getElem?_getD, List.getElem?_eq_getElem (by omega : k.toNat < ws.length)]
      exact isW_iff.2 (hg.word _ (List.getElem_mem _))
    obtain ⟨j, hj⟩ := dr_iter (c := c) (c1 := c1) (c2 := c2) ct hg hs n (k + 1) (vs.set k.toNat (newV T S sl (lat T S K ws 6 sl != 0) k (ws.getD k.toNat 0))) (by omega) (by omega) (by simpa using hv) (fun i hi => by
      rw [List.getElem?_set_ne (by omega)]; exact hq i (by omega))
    refine ⟨j + 1, ?_⟩
    have e : (round sumsG1 60 68 3 1 (drL t) (drA T S K G Q sl l k l c l c1 l c2 ws vs)).get = some (.normal, drA T S K G Q sl l (k + 1) l c l c1 l c2 ws (vs.set k.toNat (newV T S sl (lat T S K ws 6 sl != 0) k (ws.getD k.toNat 0)))) := by
      refine cut_get (ct T S K G Q sl l k l c l c1 l c2 ws vs) ?_
      have same : vs.set k.toNat (ws.getD k.toNat 0) = vs := by
        have : vs[k.toNat]? = ws[k.toNat]? := hq _ (Nat.le_refl _)
        rw [List.getD_eq_getElem?_getD, ← this, List.getElem?_eq_getElem (by omega : k.toNat < vs.length)]
        simp
      simp only [pt_dr, den, Tree.get_br, Tree.get_leaf, Nat.zero_add, Nat.mul_one, decide_eq_true hk, decide_eq_true (show 0 ≤ k ∧ k < (l : Int) from ⟨h0, hk⟩), decide_eq_true (show k.toNat < ws.length by omega), decide_eq_true (show k.toNat < vs.length by omega), hg.right, decide_eq_true (show 0 ≤ k ∧ k < lenOf T S K by omega), hw, decide_eq_true (show 0 ≤ sl ∧ sl ≤ 11 by omega), hr, decide_eq_true hcell, Bool.and_self, if_true, w1, beq_iff_eq, cond_true, bne_iff_ne]
      unfold newV
      by_cases q8 : kindAt T S k = 8
      · rw [if_pos q8, if_pos q8, if_neg (show ¬ kindAt T S k = 4 by omega)]
      rw [if_neg q8, if_neg q8]
      by_cases q4 : kindAt T S k = 4
      · rw [if_pos q4]
        by_cases qs : ofAt T S k = sl
        · rw [if_neg (fun h => h qs), if_neg (show ¬ (kindAt T S k = 4 ∧ ofAt T S k ≠ sl) from fun h => h.2 qs), same]
        · rw [if_pos qs, if_pos (show kindAt T S k = 4 ∧ ofAt T S k ≠ sl from ⟨q4, qs⟩)]
      · rw [if_neg q4, if_neg (show ¬ (kindAt T S k = 4 ∧ ofAt T S k ≠ sl) from fun h => q4 h.1), same]
    simp only [iterR, e]
    rw [hj]
    rfl
theorem dr_step {t : Nat} (ct : ∀ (T S K G Q sl bound k : Int) (l c l1 c1 l2 c2 : Nat) (ws vs : List Int), cutP (pt_dr T S K G Q sl bound k l c l1 c1 l2 c2 ws vs) (round sumsG1 60 68 3 1 (drL t) (drA T S K G Q sl bound k l c l1 c1 l2 c2 ws vs)) = den (pt_dr T S K G Q sl bound k l c l1 c1 l2 c2 ws vs))
    (x : List Atom) (res : Ex × List Atom) (h : (dr_t x).get = some res) : ∃ n, iterR (round sumsG1 60 68 3 1 (drL t)) n x = some res := by
  unfold dr_t at h
  split at h
  · rename_i l c sl l1 c1 l2 c2 bound k ws T S K G Q vs
    obtain ⟨hg, h2⟩ := get_br h
    simp only [Bool.and_eq_true, decide_eq_true_eq] at hg
    obtain ⟨h0, e1, e2, e3, e4, e5, h5, h6⟩ := hg
    replace e1 := e1.symm
    replace e3 := e3.symm
    replace e4 := e4.symm
    replace e5 := e5.symm
    subst e1 e2 e3 e4 e5
    have hgood := goodB_iff.1 h0
    obtain ⟨j, hj⟩ := dr_iter ct hgood (c := c) (c1 := c1) (c2 := c2) ⟨h5, h6⟩ l 0 ws (by simp) (by omega) hgood.len (fun _ _ => rfl)
    exact ⟨j, hj.trans h2⟩
  · cases h
theorem bodyDr_is : bodyOf 68 = some ((bodyOf 68).getD .skip) := by kernel_rfl
theorem keysDr_is : keysOk (loopsIn ((bodyOf 68).getD .skip)) = true := by kernel_rfl
noncomputable def sumsDr (t : Nat) : Sums := withLoop sumsG1 68 3 (tlsum 1 (drL t) dr_t)
theorem sumsDr0_ok : SumsOk (sumsDr winT) := loop_tsum (fuel := 60) sumsG1_ok bodyDr_is keysDr_is (by show (1 : Nat) ≤ 3; omega) (dr_step ct_dr0)
theorem sumsDr1_ok : SumsOk (sumsDr 22) := loop_tsum (fuel := 60) sumsG1_ok bodyDr_is keysDr_is (by show (1 : Nat) ≤ 3; omega) (dr_step ct_dr1)
def DrF (t : Nat) : FForm := ⟨[cfPt, .slice 0 0 none, i6], hB1 t, [⟨[(0, .slice 1 0 none)], 1, hB1 t ++ [(1, 22, .ints .u64)], 2, []⟩]⟩
def ReF (t : Nat) : FForm := ⟨[cfPt, .slice 0 0 none, i6, i6], hB1 t, [⟨[(0, .slice 1 0 none)], 1, hB1 t ++ [(1, 22, .ints .u64)], 2, []⟩]⟩
end Go.Proofs.YtfccbghmagohaaaGreat.Bound
end

section
namespace Go.Proofs.YtfccbghmagohaaaGreat.Bound
open Go.Proofs.YtfccbghmagohaaaGreat.Ev Go.Proofs.YtfccbghmagohaaaGreat.ChartMath
set_option linter.unusedVariables false
set_option linter.unusedSimpArgs false
def pt_drf (T S K G Q sl : Int) (l c : Nat) (ws : List Int) : PT (Nat × List Atom) := .b (decide (l = 0)) .bad (.b (decide (0 + l * 1 ≤ ws.length)) (.b (decide ((0 : Nat) = 0 ∧ (0 : Nat) = 0 * 1 ∧ (0 + l) * 8 ≤ 140737488355328 ∧ 0 + l ≤ 4611686018427387904)) (.b (goodB T S K G Q l ws && decide ((0 : Int) = 0 ∧ (l : Int) = (l : Int) ∧ 0 + l = l ∧ l = l ∧ [] ++ List.take (l * 1) (List.drop 0 ws) = ws ∧ 0 ≤ sl ∧ sl < S)) (.leaf (0, [.n l, .n (0 + l), .ws ws, .ws (dropF T S sl (lat T S K ws 6 sl != 0) ws l 0 ws)])) .bad) .bad) .bad)
theorem ct_drf0 (T S K G Q sl : Int) (l c : Nat) (ws : List Int) : cutP (pt_drf T S K G Q sl l c ws) (endF (ev (sumsDr winT) 60 68) (DrF winT) [.i T, .i S, .i K, .i G, .i Q, .n l, .n c, .i sl, .ws ws]) = den (pt_drf T S K G Q sl l c ws) := by kernel_rfl
theorem ct_drf1 (T S K G Q sl : Int) (l c : Nat) (ws : List Int) : cutP (pt_drf T S K G Q sl l c ws) (endF (ev (sumsDr 22) 60 68) (DrF 22) [.i T, .i S, .i K, .i G, .i Q, .n l, .n c, .i sl, .ws ws]) = den (pt_drf T S K G Q sl l c ws) := by kernel_rfl
def dr_o : List Atom → Tree (Nat × List Atom)
  | [.i T, .i S, .i K, .i G, .i Q, .n l, .n c, .i sl, .ws ws] => .br (goodB T S K G Q l ws && decide (0 ≤ sl ∧ sl < S)) (.leaf (0, [.n l, .n l, .ws ws, .ws (dropF T S sl (lat T S K ws 6 sl != 0) ws l 0 ws)])) .bad
  | _ => .bad
theorem dr_out (T S K G Q sl : Int) (l c : Nat) (ws : List Int) (r : Nat × List Atom) (h : (dr_o [.i T, .i S, .i K, .i G, .i Q, .n l, .n c, .i sl, .ws ws]).get = some r) : (den (pt_drf T S K G Q sl l c ws)).get = some r := by
  obtain ⟨hg, h2⟩ := get_br h
  rw [← h2]
  have hgs := hg
  simp only [Bool.and_eq_true, decide_eq_true_eq] at hgs
  have hgood := goodB_iff.1 hgs.1
  have hc := hgood.cfg
  have hll := hgood.ll
  unfold lenOf at hll
  have e4 : List.take l ws = ws := List.take_of_length_le (by rw [hgood.len]; exact Nat.le_refl _)
  have hlen := hgood.len
  simp only [pt_drf, den, Tree.get_br, Tree.get_leaf]
  rw [if_neg (by simp; omega), if_pos (decide_eq_true (show 0 + l * 1 ≤ ws.length by omega))]
  refine (if_pos (decide_eq_true ⟨trivial, trivial, by omega, by omega⟩)).trans ((if_pos ?_).trans (by rw [Nat.zero_add]))
  rw [hgs.1, Bool.true_and]
  exact decide_eq_true ⟨trivial, trivial, Nat.zero_add _, trivial, by simpa using e4, hgs.2.1, hgs.2.2⟩
theorem dr_s0 (x : List Atom) (r : Nat × List Atom) (h : (dr_o x).get = some r) : (endF (ev (sumsDr winT) 60 68) (DrF winT) x).get = some r := by
  have h' := h
  unfold dr_o at h
  split at h
  · exact cut_get (ct_drf0 ..) (dr_out _ _ _ _ _ _ _ _ _ _ h')
  · cases h
theorem dr_s1 (x : List Atom) (r : Nat × List Atom) (h : (dr_o x).get = some r) : (endF (ev (sumsDr 22) 60 68) (DrF 22) x).get = some r := by
  have h' := h
  unfold dr_o at h
  split at h
  · exact cut_get (ct_drf1 ..) (dr_out _ _ _ _ _ _ _ _ _ _ h')
  · cases h
def pt_re (T S K G Q sl st : Int) (l c : Nat) (ws : List Int) : PT (Nat × List Atom) := .b (rowL T S K G Q l ws && decide (0 ≤ cellOf T S K 2 0)) (.b (rowL T S K G Q l ws && decide (0 ≤ cellOf T S K 4 sl)) (.b (isW (lat T S K ws 4 sl) && decide (0 ≤ st ∧ st ≤ 7)) (.b (rowL T S K G Q l ws && decide (0 ≤ cellOf T S K 4 sl)) (.b (rowL T S K G Q l (lset T S K ws 4 sl (moveI (lat T S K ws 4 sl) st false)) && decide (0 ≤ cellOf T S K 2 0)) (.b (rowL T S K G Q l (lset T S K (lset T S K ws 4 sl (moveI (lat T S K ws 4 sl) st false)) 2 0 (IntKind.u64.wrap (lat T S K ws 2 0 + 1))) && decide (0 ≤ cellOf T S K 7 sl)) (.leaf (0, [.n l, .n l, .ws ws, .ws (retireW (mkP T S K 0 sl) ws st)])) .bad) .bad) .bad) .bad) .bad) .bad
theorem ct_re0 (T S K G Q sl st : Int) (l c : Nat) (ws : List Int) : cutP (pt_re T S K G Q sl st l c ws) (endF (ev sumsG1 60 66) (ReF winT) [.i T, .i S, .i K, .i G, .i Q, .n l, .n c, .i sl, .i st, .ws ws]) = den (pt_re T S K G Q sl st l c ws) := by kernel_rfl
theorem ct_re1 (T S K G Q sl st : Int) (l c : Nat) (ws : List Int) : cutP (pt_re T S K G Q sl st l c ws) (endF (ev sumsG1 60 66) (ReF 22) [.i T, .i S, .i K, .i G, .i Q, .n l, .n c, .i sl, .i st, .ws ws]) = den (pt_re T S K G Q sl st l c ws) := by kernel_rfl
def re_o : List Atom → Tree (Nat × List Atom)
  | [.i T, .i S, .i K, .i G, .i Q, .n l, .n c, .i sl, .i st, .ws ws] => .br (goodB T S K G Q l ws && decide (0 ≤ sl ∧ sl < S ∧ 0 ≤ st ∧ st ≤ 7)) (.leaf (0, [.n l, .n l, .ws ws, .ws (retireW (mkP T S K 0 sl) ws st)])) .bad
  | _ => .bad
theorem re_out (T S K G Q sl st : Int) (l c : Nat) (ws : List Int) (r : Nat × List Atom) (h : (re_o [.i T, .i S, .i K, .i G, .i Q, .n l, .n c, .i sl, .i st, .ws ws]).get = some r) : (den (pt_re T S K G Q sl st l c ws)).get = some r := by
  obtain ⟨hg, h2⟩ := get_br h
  rw [← h2]
  simp only [Bool.and_eq_true, decide_eq_true_eq] at hg
  obtain ⟨hg0, s0, s1, t0, t1⟩ := hg
  have hgood := goodB_iff.1 hg0
  have hc := hgood.cfg
  have c2 : (0 : Int) ≤ cellOf T S K 2 0 := by rw [cell_ep]; omega
  have c4 : (0 : Int) ≤ cellOf T S K 4 sl := by rw [cell_st (by omega) (by omega) s0 s1]; omega
  have c7 : (0 : Int) ≤ cellOf T S K 7 sl := by rw [cell_st (by omega) (by omega) s0 s1]; omega
  have r0 : rowL T S K G Q l ws = true := rowL_iff.2 ⟨hgood.right, hgood.len, hgood.ll⟩
  have r1 : ∀ k o v, rowL T S K G Q l (lset T S K ws k o v) = true := fun k o v => rowL_iff.2 ⟨hgood.right, by rw [lset_len, hgood.len], hgood.ll⟩
  have r2 : ∀ k o v k' o' v', rowL T S K G Q l (lset T S K (lset T S K ws k o v) k' o' v') = true := fun k o v k' o' v' => rowL_iff.2 ⟨hgood.right, by rw [lset_len, lset_len, hgood.len], hgood.ll⟩
  simp only [pt_re, den, Tree.get_br, Tree.get_leaf, r0, r1, r2, hgood.isW, decide_eq_true c2, decide_eq_true c4, decide_eq_true c7, decide_eq_true (show 0 ≤ st ∧ st ≤ 7 from ⟨t0, t1⟩), Bool.and_self, if_true]
theorem re_s0 (x : List Atom) (r : Nat × List Atom) (h : (re_o x).get = some r) : (endF (ev sumsG1 60 66) (ReF winT) x).get = some r := by
  have h' := h
  unfold re_o at h
  split at h
  · exact cut_get (ct_re0 ..) (re_out _ _ _ _ _ _ _ _ _ _ _ h')
  · cases h
theorem re_s1 (x : List Atom) (r : Nat × List Atom) (h : (re_o x).get = some r) : (endF (ev sumsG1 60 66) (ReF 22) x).get = some r := by
  have h' := h
  unfold re_o at h
  split at h
  · exact cut_get (ct_re1 ..) (re_out _ _ _ _ _ _ _ _ _ _ _ h')
  · cases h
theorem he_s0 (x : List Atom) (r : Nat × List Atom) (h : (he_o x).get = some r) : (endF (ev (sumsH winT) 60 67) (HeF winT) x).get = some r := by
  have h' := h
  unfold he_o at h
  split at h
  · rw [he_e0]; exact h'
  · cases h
theorem he_s1 (x : List Atom) (r : Nat × List Atom) (h : (he_o x).get = some r) : (endF (ev (sumsH 22) 60 67) (HeF 22) x).get = some r := by
  have h' := h
  unfold he_o at h
  split at h
  · rw [he_e1]; exact h'
  · cases h
theorem la_s (x : List Atom) (r : Nat × List Atom) (h : (la_o x).get = some r) : (endF (ev sumsLa 60 65) (LaF winT) x).get = some r := by
  have h' := h
  unfold la_o at h
  split at h
  · rw [la_e]; exact h'
  · cases h
noncomputable def sumsG2 : Sums := withOr (withOr (withOr (withT sumsG1 65 [(LaF winT, la_o)]) 67 (HeF winT) (HeF 22) he_o he_o) 68 (DrF winT) (DrF 22) dr_o dr_o) 66 (ReF winT) (ReF 22) re_o re_o
theorem sumsG2_ok : SumsOk sumsG2 := withOr_ok (withOr_ok (withOr_ok (withT_ok sumsG1_ok sumsLa_ok 60 (by kernel_rfl) fun a ha x r h => by
  simp only [List.mem_cons, List.not_mem_nil, or_false] at ha
  subst ha
  exact la_s x r h) sumsH0_ok sumsH1_ok (by kernel_rfl) he_s0 he_s1) sumsDr0_ok sumsDr1_ok (by kernel_rfl) dr_s0 dr_s1) sumsG1_ok sumsG1_ok (by kernel_rfl) re_s0 re_s1
/-- What words become, and what is told: the words of before, or new ones. -/
def SwF : FForm := ⟨[cfPt, .slice 0 0 none, i6, u6], hB1 winT, [⟨[(0, .tuple [.slice 0 0 none, i6])], 1, hB1 winT, 1, []⟩, ⟨[(0, .tuple [.slice 1 0 none, i6])], 1, hB1 winT ++ [(1, 22, .ints .u64)], 2, []⟩]⟩
end Go.Proofs.YtfccbghmagohaaaGreat.Bound
end
