/- How many slots are of each kind, by the program and by the document: the same. No condition. -/
import Derived.Test.YtkgofabpmppglaaGreatRooms
namespace Go.Proofs.YtkgofabpmppglaaGreat.Bound
open Go.Proofs.YtkgofabpmppglaaGreat.Ev Go.Proofs.YtkgofabpmppglaaGreat.ChartMath
set_option linter.unusedVariables false
set_option linter.unusedSimpArgs false
theorem getD_set {l : List Int} {i j : Nat} {v : Int} (h : i < l.length) : (l.set i v).getD j 0 = if i = j then v else l.getD j 0 := by
  simp only [List.getD_eq_getElem?_getD, List.getElem?_set]
  by_cases e : i = j
  · subst e; simp [h]
  · simp [e]
/-- What both have counted, as far as they are. -/
structure Cnt (k out : Int) (st : List Int) (b : Int × Int × Int × Int) : Prop where
  out : out = b.2.2.2
  len : st.length = 8
  free : st.getD 0 0 = b.1
  open_ : st.getD 1 0 + st.getD 2 0 + st.getD 3 0 = b.2.1
  all : b.1 + b.2.1 + b.2.2.1 + b.2.2.2 = k
  pos : 0 ≤ b.1 ∧ 0 ≤ b.2.1 ∧ 0 ≤ b.2.2.1 ∧ 0 ≤ b.2.2.2
  each : ∀ j, 0 ≤ st.getD j 0 ∧ st.getD j 0 ≤ k
theorem run_same {T S K G Q : Int} {ws : List Int} (hT : 1 ≤ T) (hS : 1 ≤ S) (hK : 1 ≤ K) (hS2 : S ≤ 12) (hl : (ws.length : Int) = lenOf T S K) (hw : words ws) : ∀ (n : Nat) (k out : Int) (st : List Int) (b : Int × Int × Int × Int), 0 ≤ k → k + n = S → Cnt k out st b →
    Cnt S (bRun T S K G Q ws n k out st).1 (bRun T S K G Q ws n k out st).2 (rRun T S K G Q ws n k b)
  | 0, k, out, st, b, h0, hk, hc => by
    have : k = S := by omega
    subst this
    exact hc
  | n + 1, k, out, st, (b1, b2, b3, b4), h0, hk, hc => by
    obtain ⟨c1, c2, c3, c4, c5, c6, c7⟩ := hc
    simp only at c1 c3 c4 c5 c6
    have hcell := cell4 (T := T) (K := K) hT hS hK h0 (show k < S by omega)
    have hlo : lenOf T S K = 2 + T + 4 * S + K := rfl
    have h2 : (cellOf T S K 4 k).toNat < ws.length := by omega
    obtain ⟨w0, w1⟩ := words_get hw h2
    have ps := partP_is (fr := 27) (many := 3) w0 w1 (by omega)
    have pg := part_same (fr := 30) (many := 32) w0 w1 (by omega)
    have pr := part_same (fr := 27) (many := 3) w0 w1 (by omega)
    simp only [bRun, rRun, pg, pr]
    have s0 : 0 ≤ partP (ws.getD (cellOf T S K 4 k).toNat 0) 27 3 ∧ partP (ws.getD (cellOf T S K 4 k).toNat 0) 27 3 < 8 := by rw [ps]; omega
    generalize partP (ws.getD (cellOf T S K 4 k).toNat 0) 27 3 = s at s0
    generalize partP (ws.getD (cellOf T S K 4 k).toNat 0) 30 32 = g
    clear ps pg pr w0 w1
    have wr : ∀ x : Int, 0 ≤ x → x ≤ 12 → IntKind.i64.wrap (x + 1) = x + 1 := fun x h1 h2 => by rw [IntKind.wrap_i64]; omega
    have each : ∀ j, 0 ≤ st.getD j 0 ∧ st.getD j 0 ≤ k + 1 := fun j => by have := c7 j; omega
    have ws := wr (st.getD s.toNat 0) (c7 _).1 (by have := c7 s.toNat; omega)
    have hi : s.toNat < st.length := by omega
    have each' : ∀ j, 0 ≤ (st.set s.toNat (st.getD s.toNat 0 + 1)).getD j 0 ∧ (st.set s.toNat (st.getD s.toNat 0 + 1)).getD j 0 ≤ k + 1 := fun j => by
      rw [getD_set hi]
      have q1 := c7 j
      have q2 := c7 s.toNat
      split <;> omega
    have step : ∀ (b : Int × Int × Int × Int), Cnt (k + 1) out (st.set s.toNat (st.getD s.toNat 0 + 1)) b → Cnt S (bRun T S K G Q _ n (k + 1) out (st.set s.toNat (IntKind.i64.wrap (st.getD s.toNat 0 + 1)))).1 (bRun T S K G Q _ n (k + 1) out (st.set s.toNat (IntKind.i64.wrap (st.getD s.toNat 0 + 1)))).2 (rRun T S K G Q _ n (k + 1) b) := fun b hb => by
      rw [ws]
      exact run_same hT hS hK hS2 hl hw n (k + 1) out _ b (by omega) (by omega) hb
    have w1 := wr b1 c6.1 (by omega)
    have w2 := wr b2 c6.2.1 (by omega)
    have w3 := wr b3 c6.2.2.1 (by omega)
    have w4 := wr b4 c6.2.2.2 (by omega)
    by_cases e0 : s = 0
    · subst e0
      by_cases hg : g > G
      · rw [if_pos ⟨rfl, hg⟩, if_pos rfl, if_neg (by omega)]
        refine run_same hT hS hK hS2 hl hw n (k + 1) _ _ _ (by omega) (by omega) ⟨by rw [c1], c2, c3, c4, ?_, ?_, each⟩
        · simp only [w4]; omega
        · simp only [w4]; omega
      · rw [if_neg (fun h => hg h.2), if_pos rfl, if_pos (by omega)]
        refine step _ ⟨c1, by rw [List.length_set]; exact c2, ?_, ?_, ?_, ?_, each'⟩
        · rw [getD_set hi, show Int.toNat 0 = 0 from rfl, if_pos rfl, c3]; exact w1.symm
        · rw [getD_set hi, getD_set hi, getD_set hi]; simp; exact c4
        · simp only [w1]; omega
        · simp only [w1]; omega
    · rw [if_neg (fun h => e0 h.1), if_neg e0]
      by_cases e1 : s = 1 ∨ s = 2 ∨ s = 3
      · rw [if_pos e1]
        refine step _ ⟨c1, by rw [List.length_set]; exact c2, ?_, ?_, ?_, ?_, each'⟩
        · rw [getD_set hi, if_neg (by omega)]; exact c3
        · show _ = IntKind.i64.wrap (b2 + 1)
          rw [w2, getD_set hi, getD_set hi, getD_set hi]
          rcases e1 with rfl | rfl | rfl
          · rw [show Int.toNat 1 = 1 from rfl, if_pos rfl, if_neg (by omega), if_neg (by omega)]; omega
          · rw [show Int.toNat 2 = 2 from rfl, if_neg (by omega), if_pos rfl, if_neg (by omega)]; omega
          · rw [show Int.toNat 3 = 3 from rfl, if_neg (by omega), if_neg (by omega), if_pos rfl]; omega
        · simp only [w2]; omega
        · simp only [w2]; omega
      · rw [if_neg e1]
        refine step _ ⟨c1, by rw [List.length_set]; exact c2, ?_, ?_, ?_, ?_, each'⟩
        · rw [getD_set hi, if_neg (by omega)]; exact c3
        · rw [getD_set hi, getD_set hi, getD_set hi, if_neg (by omega), if_neg (by omega), if_neg (by omega)]; exact c4
        · simp only [w3]; omega
        · simp only [w3]; omega
/-- What both tell. -/
def roomsR (T S K G Q : Int) (ws : List Int) : Int × Int × Int × Int := rRun T S K G Q ws (S - 0).toNat 0 (0, 0, 0, 0)
def isR (T S K G Q : Int) (ws : List Int) : Bool := right T S K G Q && decide ((ws.length : Int) = lenOf T S K)
def outR (T S K G Q : Int) (ws : List Int) : List Atom := bif isR T S K G Q ws then [.i (roomsR T S K G Q ws).1, .i (roomsR T S K G Q ws).2.1, .i (roomsR T S K G Q ws).2.2.1, .i (roomsR T S K G Q ws).2.2.2, .b true, .ws ws] else [.i 0, .i 0, .i 0, .i 0, .b false, .ws ws]
theorem rooms_cnt {T S K G Q : Int} {ws : List Int} (hR : right T S K G Q = true) (hl : (ws.length : Int) = lenOf T S K) (hw : words ws) :
    Cnt S (bRun T S K G Q ws (S - 0).toNat 0 0 [0, 0, 0, 0, 0, 0, 0, 0]).1 (bRun T S K G Q ws (S - 0).toNat 0 0 [0, 0, 0, 0, 0, 0, 0, 0]).2 (roomsR T S K G Q ws) := by
  obtain ⟨t1, t2, s1, s2, k1, k2, _⟩ := right_iff.1 hR
  refine run_same t1 s1 k1 s2 hl hw _ 0 0 _ _ (by omega) (by omega) ⟨rfl, rfl, rfl, rfl, rfl, by simp, fun j => ?_⟩
  have : ([0, 0, 0, 0, 0, 0, 0, 0] : List Int).getD j 0 = 0 := by
    rcases Nat.lt_or_ge j 8 with h | h
    · match j, h with
      | 0, _ | 1, _ | 2, _ | 3, _ | 4, _ | 5, _ | 6, _ | 7, _ => rfl
    · rw [List.getD_eq_getElem?_getD, List.getElem?_eq_none (by simpa using h)]; rfl
  rw [this]
  exact ⟨by omega, by omega⟩
def OF : FForm := ⟨[.agg [.int .i64, .int .i64, .int .i64, .int .i64, .int .u64], .slice 0 0 none], [(0, winT, .ints .u64)], [⟨[(0, .tuple [.agg [.int .i64, .int .i64, .int .i64, .int .i64], .bool])], 1, [(0, winT, .ints .u64)], 1, []⟩]⟩
theorem bo_way_1 (T S K G Q : Int) (ws : List Int) (l c : Nat) : walk (endF (ev sums11 60 13) OF [.i T, .i S, .i K, .i G, .i Q, .n l, .n c, .ws ws]) [true, true, true, true, true, true] =
    some ([lenA T S K G Q == 0, true, true, true, true, true], (0, [.i (0), .i (0), .i (0), .i (0), .b false, .ws (ws)])) := by kernel_rfl
theorem bo_way_2 (T S K G Q : Int) (ws : List Int) (l c : Nat) : walk (endF (ev sums11 60 13) OF [.i T, .i S, .i K, .i G, .i Q, .n l, .n c, .ws ws]) [false, false, false, false, true] =
    some ([lenA T S K G Q == 0, false, false, false, bif false then true else lenA T S K G Q != ↑l], (0, [.i (0), .i (0), .i (0), .i (0), .b false, .ws (ws)])) := by kernel_rfl
theorem bo_way_3 (T S K G Q : Int) (ws : List Int) (l c : Nat) : walk (endF (ev sums11 60 13) OF [.i T, .i S, .i K, .i G, .i Q, .n l, .n c, .ws ws]) [false, false, false, false, false, true, true, true, true, true, true, true, true, true, true, true] =
    some ([lenA T S K G Q == 0, false, false, false, bif false then true else lenA T S K G Q != ↑l, cdec (b_I ([Atom.n l, Atom.n c] ++ ([] ++ ([] ++ ([Atom.b false] ++ ([] ++ ([Atom.i 0] ++ ([Atom.i S] ++ ([Atom.i 0] ++ []))))))) ++ ([Atom.ws ws] ++ ([Atom.i T] ++ ([Atom.i S] ++ ([Atom.i K] ++ ([Atom.i G] ++ ([Atom.i Q] ++ [])))) ++ ([Atom.i 0] ++ ([Atom.i 0] ++ ([Atom.i 0] ++ ([Atom.i 0] ++ []))) ++ ([Atom.ws [0, 0, 0, 0, 0, 0, 0, 0]] ++ [])))))), true, decide ((0 + Int.toNat 1 * 1) < (bRun T S K G Q ws (S - 0).toNat 0 0 [0, 0, 0, 0, 0, 0, 0, 0]).snd.length), true, decide ((0 + Int.toNat 2 * 1) < (bRun T S K G Q ws (S - 0).toNat 0 0 [0, 0, 0, 0, 0, 0, 0, 0]).snd.length), true, decide ((0 + Int.toNat 3 * 1) < (bRun T S K G Q ws (S - 0).toNat 0 0 [0, 0, 0, 0, 0, 0, 0, 0]).snd.length), true, decide ((0 + Int.toNat 0 * 1) < (bRun T S K G Q ws (S - 0).toNat 0 0 [0, 0, 0, 0, 0, 0, 0, 0]).snd.length), true, decide ((0 + Int.toNat 0 * 1) < (bRun T S K G Q ws (S - 0).toNat 0 0 [0, 0, 0, 0, 0, 0, 0, 0]).snd.length)], (0, [.i ((bRun T S K G Q ws (S - 0).toNat 0 0 [0, 0, 0, 0, 0, 0, 0, 0]).snd.getD ((0 + Int.toNat 0 * 1)) 0), .i (IntKind.i64.wrap (IntKind.i64.wrap ((bRun T S K G Q ws (S - 0).toNat 0 0 [0, 0, 0, 0, 0, 0, 0, 0]).snd.getD ((0 + Int.toNat 1 * 1)) 0 + (bRun T S K G Q ws (S - 0).toNat 0 0 [0, 0, 0, 0, 0, 0, 0, 0]).snd.getD ((0 + Int.toNat 2 * 1)) 0) + (bRun T S K G Q ws (S - 0).toNat 0 0 [0, 0, 0, 0, 0, 0, 0, 0]).snd.getD ((0 + Int.toNat 3 * 1)) 0)), .i (IntKind.i64.wrap (IntKind.i64.wrap (IntKind.i64.wrap (S - (bRun T S K G Q ws (S - 0).toNat 0 0 [0, 0, 0, 0, 0, 0, 0, 0]).fst) - (bRun T S K G Q ws (S - 0).toNat 0 0 [0, 0, 0, 0, 0, 0, 0, 0]).snd.getD ((0 + Int.toNat 0 * 1)) 0) - IntKind.i64.wrap (IntKind.i64.wrap ((bRun T S K G Q ws (S - 0).toNat 0 0 [0, 0, 0, 0, 0, 0, 0, 0]).snd.getD ((0 + Int.toNat 1 * 1)) 0 + (bRun T S K G Q ws (S - 0).toNat 0 0 [0, 0, 0, 0, 0, 0, 0, 0]).snd.getD ((0 + Int.toNat 2 * 1)) 0) + (bRun T S K G Q ws (S - 0).toNat 0 0 [0, 0, 0, 0, 0, 0, 0, 0]).snd.getD ((0 + Int.toNat 3 * 1)) 0))), .i ((bRun T S K G Q ws (S - 0).toNat 0 0 [0, 0, 0, 0, 0, 0, 0, 0]).fst), .b true, .ws (ws)])) := by kernel_rfl
theorem ro_way_1 (T S K G Q : Int) (ws : List Int) (l c : Nat) : walk (endF (ev sums11 60 14) OF [.i T, .i S, .i K, .i G, .i Q, .n l, .n c, .ws ws]) [true, true, true, true, true, true, true] =
    some ([!right T S K G Q, true, true, true, true, true, true], (0, [.i (0), .i (0), .i (0), .i (0), .b false, .ws (ws)])) := by kernel_rfl
theorem ro_way_2 (T S K G Q : Int) (ws : List Int) (l c : Nat) : walk (endF (ev sums11 60 14) OF [.i T, .i S, .i K, .i G, .i Q, .n l, .n c, .ws ws]) [false, false, false, false, false, true] =
    some ([!right T S K G Q, false, false, false, false, bif false then true else ↑l != lenA T S K G Q], (0, [.i (0), .i (0), .i (0), .i (0), .b false, .ws (ws)])) := by kernel_rfl
theorem ro_way_3 (T S K G Q : Int) (ws : List Int) (l c : Nat) : walk (endF (ev sums11 60 14) OF [.i T, .i S, .i K, .i G, .i Q, .n l, .n c, .ws ws]) [false, false, false, false, false, false, true] =
    some ([!right T S K G Q, false, false, false, false, bif false then true else ↑l != lenA T S K G Q, cdec (r_I ([Atom.n l, Atom.n c] ++ ([] ++ ([] ++ ([Atom.b false] ++ ([] ++ ([Atom.i 0] ++ []))))) ++ ([Atom.ws ws] ++ ([Atom.i T] ++ ([Atom.i S] ++ ([Atom.i K] ++ ([Atom.i G] ++ ([Atom.i Q] ++ [])))) ++ ([Atom.i 0] ++ ([Atom.i 0] ++ ([Atom.i 0] ++ ([Atom.i 0] ++ []))) ++ ([Atom.i 0] ++ ([Atom.i 0] ++ ([Atom.i 0] ++ ([Atom.i 0] ++ []))) ++ []))))))], (0, [.i ((rRun T S K G Q ws (S - 0).toNat 0 (0, 0, 0, 0)).fst), .i ((rRun T S K G Q ws (S - 0).toNat 0 (0, 0, 0, 0)).snd.fst), .i ((rRun T S K G Q ws (S - 0).toNat 0 (0, 0, 0, 0)).snd.snd.fst), .i ((rRun T S K G Q ws (S - 0).toNat 0 (0, 0, 0, 0)).snd.snd.snd), .b true, .ws (ws)])) := by kernel_rfl

def o_I : List Atom → Prop
  | [.i T, .i S, .i K, .i G, .i Q, .n l, .n c, .ws ws] => ws.length = l ∧ words ws
  | _ => False
def o_out : List Atom → Tree (Nat × List Atom)
  | [.i T, .i S, .i K, .i G, .i Q, .n l, .n c, .ws ws] => .br (isR T S K G Q ws) (.leaf (0, [.i (roomsR T S K G Q ws).1, .i (roomsR T S K G Q ws).2.1, .i (roomsR T S K G Q ws).2.2.1, .i (roomsR T S K G Q ws).2.2.2, .b true, .ws ws])) (.leaf (0, [.i 0, .i 0, .i 0, .i 0, .b false, .ws ws]))
  | _ => .bad
theorem len_pos {T S K G Q : Int} (hR : right T S K G Q = true) : (lenOf T S K == 0) = false := by
  obtain ⟨t1, t2, s1, s2, k1, k2, _⟩ := right_iff.1 hR
  simp [lenOf]
  omega
theorem bo_step (x : List Atom) (h : o_I x) : ∃ r, (endF (ev sums11 60 13) OF x).get = some r ∧ (o_out x).get = some r := by
  unfold o_I at h
  split at h
  · rename_i T S K G Q l c ws
    obtain ⟨hl, hw⟩ := h
    cases hR : right T S K G Q with
    | false =>
      refine ⟨_, get_walk (bo_way_1 T S K G Q ws l c) (by simp [lenA, hR]), by simp [o_out, isR, hR]⟩
    | true =>
      have hp := len_pos hR
      have hA : lenA T S K G Q = lenOf T S K := by simp [lenA, hR]
      by_cases e : (ws.length : Int) = lenOf T S K
      · obtain ⟨t1, t2, s1, s2, k1, k2, _⟩ := right_iff.1 hR
        have hc := rooms_cnt (G := G) (Q := Q) hR e hw
        obtain ⟨c1, c2, c3, c4, c5, c6, c7⟩ := hc
        have hI : cdec (b_I ([Atom.n l, Atom.n c] ++ ([] ++ ([] ++ ([Atom.b false] ++ ([] ++ ([Atom.i 0] ++ ([Atom.i S] ++ ([Atom.i 0] ++ []))))))) ++ ([Atom.ws ws] ++ ([Atom.i T] ++ ([Atom.i S] ++ ([Atom.i K] ++ ([Atom.i G] ++ ([Atom.i Q] ++ [])))) ++ ([Atom.i 0] ++ ([Atom.i 0] ++ ([Atom.i 0] ++ ([Atom.i 0] ++ []))) ++ ([Atom.ws [0, 0, 0, 0, 0, 0, 0, 0]] ++ [])))))) = true := cdec_true ⟨rfl, hR, hl, by omega, by omega, rfl, hw⟩
        refine ⟨_, get_walk (bo_way_3 T S K G Q ws l c) ?_, ?_⟩
        · rw [hI, hA, hp, c2]
          have : (lenOf T S K != (l : Int)) = false := by simp; omega
          simp only [this, cond_false]
          rfl
        · have w1 := c7 1
          have w2 := c7 2
          have w3 := c7 3
          have wr : ∀ x : Int, -100 ≤ x → x ≤ 100 → IntKind.i64.wrap x = x := fun x h1 h2 => by rw [IntKind.wrap_i64]; omega
          have i0 : (0 + Int.toNat 0 * 1) = 0 := rfl
          have i1 : (0 + Int.toNat 1 * 1) = 1 := rfl
          have i2 : (0 + Int.toNat 2 * 1) = 2 := rfl
          have i3 : (0 + Int.toNat 3 * 1) = 3 := rfl
          simp only [o_out, isR, hR, decide_eq_true e, Bool.and_self, Tree.get_br, if_true, Tree.get_leaf, i0, i1, i2, i3]
          generalize roomsR T S K G Q ws = r at *
          obtain ⟨r1, r2, r3, r4⟩ := r
          generalize bRun T S K G Q ws (S - 0).toNat 0 0 [0, 0, 0, 0, 0, 0, 0, 0] = b at *
          obtain ⟨out, st⟩ := b
          simp only at *
          generalize st.getD 0 0 = s0 at *
          generalize st.getD 1 0 = s1' at *
          generalize st.getD 2 0 = s2' at *
          generalize st.getD 3 0 = s3' at *
          rw [wr (s1' + s2') (by omega) (by omega), wr (s1' + s2' + s3') (by omega) (by omega), wr (S - out) (by omega) (by omega), wr (S - out - s0) (by omega) (by omega), wr (S - out - s0 - (s1' + s2' + s3')) (by omega) (by omega), c1, c3, c4]
          rw [show S - r4 - r1 - r2 = r3 by omega]
      · refine ⟨_, get_walk (bo_way_2 T S K G Q ws l c) ?_, by simp [o_out, isR, hR, e]⟩
        rw [hA, hp]
        have : (lenOf T S K != (l : Int)) = true := by simp; omega
        simp only [this, cond_false]
  · exact h.elim
theorem ro_step (x : List Atom) (h : o_I x) : ∃ r, (endF (ev sums11 60 14) OF x).get = some r ∧ (o_out x).get = some r := by
  unfold o_I at h
  split at h
  · rename_i T S K G Q l c ws
    obtain ⟨hl, hw⟩ := h
    cases hR : right T S K G Q with
    | false =>
      refine ⟨_, get_walk (ro_way_1 T S K G Q ws l c) (by simp [hR]), by simp [o_out, isR, hR]⟩
    | true =>
      have hA : lenA T S K G Q = lenOf T S K := by simp [lenA, hR]
      by_cases e : (ws.length : Int) = lenOf T S K
      · have hI : cdec (r_I ([Atom.n l, Atom.n c] ++ ([] ++ ([] ++ ([Atom.b false] ++ ([] ++ ([Atom.i 0] ++ []))))) ++ ([Atom.ws ws] ++ ([Atom.i T] ++ ([Atom.i S] ++ ([Atom.i K] ++ ([Atom.i G] ++ ([Atom.i Q] ++ [])))) ++ ([Atom.i 0] ++ ([Atom.i 0] ++ ([Atom.i 0] ++ ([Atom.i 0] ++ []))) ++ ([Atom.i 0] ++ ([Atom.i 0] ++ ([Atom.i 0] ++ ([Atom.i 0] ++ []))) ++ [])))))) = true := cdec_true ⟨hR, hl, by omega, by omega⟩
        refine ⟨_, get_walk (ro_way_3 T S K G Q ws l c) ?_, ?_⟩
        · rw [hI, hA]
          have : ((l : Int) != lenOf T S K) = false := by simp; omega
          simp only [hR, this, cond_false, Bool.not_true]
        · simp only [o_out, isR, hR, decide_eq_true e, Bool.and_self, Tree.get_br, if_true, Tree.get_leaf]
          rfl
      · refine ⟨_, get_walk (ro_way_2 T S K G Q ws l c) ?_, by simp [o_out, isR, hR, e]⟩
        rw [hA]
        have : ((l : Int) != lenOf T S K) = true := by simp; omega
        simp only [hR, this, cond_false, Bool.not_true]
  · exact h.elim
noncomputable def sums14 : Sums := withForm (withForm sums1 13 OF o_I o_out) 14 OF o_I o_out
theorem sums14_ok : SumsOk sums14 := withForm_ok (withForm_ok sums1_ok sums11_ok 60 (by kernel_rfl) bo_step) sums11_ok 60 (by kernel_rfl) ro_step
end Go.Proofs.YtkgofabpmppglaaGreat.Bound
