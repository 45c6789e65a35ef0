/- The law SweepNone: what it looks at in the cells. No condition. An Open that goes on alone: what it tells. No condition. Behind a sweep no cell names its slot; which slot the next one gets. No condition. The law SweepNone. No condition. -/
import Derived.Test.YtfmhlldfpohokaaGreatSwNo
import Derived.Test.YtfmhlldfpohokaaGreatSwLB2
section
namespace Go.Proofs.YtfmhlldfpohokaaGreat.Bound
open Go.Proofs.YtfmhlldfpohokaaGreat.Ev Go.Proofs.YtfmhlldfpohokaaGreat.ChartMath
set_option linter.unusedVariables false
set_option linter.unusedSimpArgs false
def nlM : List (Nat × TypeId × CPat) := [(4, 116, memK 5), (5, 22, .ints .u64)]
def nlL : LForm := ⟨[3, 5, 7, 11, 12, 79, 80, 81], ⟨[(3, .ptr 2 0 none), (5, .ptr 3 0 none), (7, .ptr 4 0 none), (11, i6), (12, i6), (79, .slice 6 0 none), (80, i6), (81, i6)], 190, knB2 ++ nlM ++ [(6, 22, .ints .u64)], 7, []⟩, [3, 5, 7, 11, 12], [(0, ⟨[(3, .ptr 2 0 none), (5, .ptr 3 0 none), (7, .ptr 4 0 none), (11, i6), (12, i6)], 190, knB2 ++ nlM, 6, []⟩)], []⟩
section
variable (sl gn bound k : Int) (l1 c1 : Nat) (ws : List Int) (rs : List (List Int)) (cT cS cK cG cQ pt ph st T S K G Q : Int) (l c : Nat) (s : MS) (vs : List Int)
def nlA (k : Int) (s : MS) : List Atom := [.i sl, .i gn, .n l1, .n c1, .i bound, .i k, .ws ws, .rs rs, .i cT, .i cS, .i cK, .i cG, .i cQ, .i pt, .i ph, .i st] ++ mA T S K G Q l c s ++ [.ws vs]
def nlE : List Atom := [.i sl, .i gn, .ws ws, .rs rs, .i cT, .i cS, .i cK, .i cG, .i cQ, .i pt, .i ph, .i st] ++ mA T S K G Q l c s
def pt_nl : PT (Ex × List Atom) := .b (decide (k < bound)) (.b (decide (0 ≤ k ∧ k < (l1 : Int))) (.b (decide ((0 + k.toNat * 1) < vs.length)) (.b (right cT cS cK cG cQ && decide (0 ≤ k ∧ k < lenOf cT cS cK)) (.b (kindAt cT cS k == 8) (.cs 2 (.b (isW (vs.getD (0 + k.toNat * 1) 0) && decide ((0 : Int) ≤ 0 ∧ (0 : Int) ≤ 1 ∧ 0 ≤ sl ∧ sl ≤ 11)) (.cs 1 (.b (bitI (vs.getD (0 + k.toNat * 1) 0) (12 * 0 + sl)) .bad (.cs 2 (.b (isW (vs.getD (0 + k.toNat * 1) 0) && decide ((0 : Int) ≤ 1 ∧ (1 : Int) ≤ 1 ∧ 0 ≤ sl ∧ sl ≤ 11)) (.cs 1 (.b (bif true then bif false then true else bitI (vs.getD (0 + k.toNat * 1) 0) (12 * 1 + sl) else false) .bad (.cs 3 (.b (kindAt cT cS k == 4) .bad (.cs 14 (.b (kindAt cT cS k == 4) .bad (.cs 5 (.leaf (.normal, nlA sl gn bound l1 c1 ws rs cT cS cK cG cQ pt ph st T S K G Q l c vs (IntKind.i64.wrap (k + 1)) s))))))))) .bad)))) .bad)) (.cs 9 (.b (kindAt cT cS k == 4) (.cs 5 (.b (bif true then ofAt cT cS k != sl else false) (.cs 2 (.b (isW (vs.getD (0 + k.toNat * 1) 0) && sideOk 1 sl) (.cs 1 (.b (bitI (vs.getD (0 + k.toNat * 1) 0) (12 * 1 + sl)) .bad (.cs 2 (.b (isW (vs.getD (0 + k.toNat * 1) 0) && sideOk 0 sl) (.cs 2 (.b (bif true then bitI (vs.getD (0 + k.toNat * 1) 0) (12 * 0 + sl) else false) .bad (.b (kindAt cT cS k == 4) (.cs 3 (.b (bif true then decide (ofAt cT cS k < sl) else false) (.cs 1 (.b (rowB T S K G Q l s) (.leaf (.normal, nlA sl gn bound l1 c1 ws rs cT cS cK cG cQ pt ph st T S K G Q l c vs (IntKind.i64.wrap (k + 1)) (mstore T S K s (kindAt cT cS k) (ofAt cT cS k) (newI 5 0)))) .bad)) (.leaf (.normal, nlA sl gn bound l1 c1 ws rs cT cS cK cG cQ pt ph st T S K G Q l c vs (IntKind.i64.wrap (k + 1)) s)))) .bad))) .bad)))) .bad)) (.cs 7 (.b (kindAt cT cS k == 4) (.cs 3 (.b (bif true then decide (ofAt cT cS k < sl) else false) (.cs 1 (.b (rowB T S K G Q l s) (.leaf (.normal, nlA sl gn bound l1 c1 ws rs cT cS cK cG cQ pt ph st T S K G Q l c vs (IntKind.i64.wrap (k + 1)) (mstore T S K s (kindAt cT cS k) (ofAt cT cS k) (newI 5 0)))) .bad)) (.leaf (.normal, nlA sl gn bound l1 c1 ws rs cT cS cK cG cQ pt ph st T S K G Q l c vs (IntKind.i64.wrap (k + 1)) s)))) .bad)))) (.cs 14 (.b (kindAt cT cS k == 4) .bad (.cs 5 (.leaf (.normal, nlA sl gn bound l1 c1 ws rs cT cS cK cG cQ pt ph st T S K G Q l c vs (IntKind.i64.wrap (k + 1)) s)))))))) .bad) .bad) .bad) (.leaf (.exit 0, nlE sl gn ws rs cT cS cK cG cQ pt ph st T S K G Q l c s))
end
theorem ct_nl (sl gn bound k : Int) (l1 c1 : Nat) (ws : List Int) (rs : List (List Int)) (cT cS cK cG cQ pt ph st T S K G Q : Int) (l c : Nat) (s : MS) (vs : List Int) : cutP (pt_nl sl gn bound k l1 c1 ws rs cT cS cK cG cQ pt ph st T S K G Q l c s vs) (round sumsN1 60 5 10 2 nlL (nlA sl gn bound l1 c1 ws rs cT cS cK cG cQ pt ph st T S K G Q l c vs k s)) = den (pt_nl sl gn bound k l1 c1 ws rs cT cS cK cG cQ pt ph st T S K G Q l c s vs) := by kernel_rfl
/-- A cell does not name the slot. -/
def okV (T S sl k v : Int) : Bool := decide ((kindAt T S k = 8 ∨ kindAt T S k = 4 ∧ ofAt T S k ≠ sl) → bitI v (12 * 0 + sl) = false ∧ bitI v (12 * 1 + sl) = false)
def allV (T S sl : Int) (vs : List Int) : Nat → Int → Bool
  | 0, _ => true
  | n + 1, k => okV T S sl k (vs.getD k.toNat 0) && allV T S sl vs n (k + 1)
/-- All slots ahead of one are ended. -/
def endM (T S K sl : Int) : Nat → Int → MS → MS
  | 0, _, s => s
  | n + 1, k, s => endM T S K sl n (k + 1) (if kindAt T S k = 4 ∧ ofAt T S k < sl then mstore T S K s 4 (ofAt T S k) (newI 5 0) else s)
def nl_t : List Atom → Tree (Ex × List Atom)
  | .i sl :: .i gn :: .n l1 :: .n c1 :: .i bound :: .i k :: .ws ws :: .rs rs :: .i cT :: .i cS :: .i cK :: .i cG :: .i cQ :: .i pt :: .i ph :: .i st :: .i T :: .i S :: .i K :: .i G :: .i Q :: .n l :: .n c :: .i tk :: .i ts :: .i to :: .i told :: .i tnew :: .b td :: .i many :: .ws sw :: .ws vs :: [] =>
    .br (goodB T S K G Q l sw && goodB T S K G Q l1 vs && decide (cT = T ∧ cS = S ∧ cK = K ∧ cG = G ∧ cQ = Q ∧ k = 0 ∧ bound = (l1 : Int) ∧ 0 ≤ sl ∧ sl ≤ 11) && allV T S sl vs l1 0) (.leaf (.exit 0, nlE sl gn ws rs T S K G Q pt ph st T S K G Q l c (endM T S K sl l1 0 ⟨sw, many, tk, ts, to, told, tnew, td⟩))) .bad
  | _ => .bad
theorem nl_iter (sl gn : Int) (l1 c1 : Nat) (ws : List Int) (rs : List (List Int)) (pt ph st : Int) {T S K G Q : Int} {l c : Nat} {vs : List Int} (hv : Good T S K G Q l1 vs) (s0 : 0 ≤ sl) (s1 : sl ≤ 11) : ∀ (n : Nat) (k : Int) (s : MS), ((l1 : Int) - k).toNat = n → 0 ≤ k → Good T S K G Q l s.ws → allV T S sl vs n k = true →
    ∃ j, iterR (round sumsN1 60 5 10 2 nlL) j (nlA sl gn l1 l1 c1 ws rs T S K G Q pt ph st T S K G Q l c vs k s) = some (.exit 0, nlE sl gn ws rs T S K G Q pt ph st T S K G Q l c (endM T S K sl n k s))
  | 0, k, s, hn, h0, hg, ha => by
    refine ⟨1, ?_⟩
    have e : (round sumsN1 60 5 10 2 nlL (nlA sl gn l1 l1 c1 ws rs T S K G Q pt ph st T S K G Q l c vs k s)).get = some (.exit 0, nlE sl gn ws rs T S K G Q pt ph st T S K G Q l c s) := cut_get (ct_nl ..) (by
      simp only [pt_nl, den, Tree.get_br, Tree.get_leaf, decide_eq_false (show ¬ k < (l1 : Int) by omega), Bool.false_eq_true, if_false])
    simp only [iterR, e, endM]
  | n + 1, k, s, hn, h0, hg, ha => by
    have hc := hv.cfg
    have hll := hv.ll
    have hlen := hv.len
    have hlo : lenOf T S K = 2 + T + 4 * S + K := rfl
    have hk : k < (l1 : Int) := by omega
    have w1 := wr_s (a := k) (by omega) (by omega)
    simp only [allV, Bool.and_eq_true] at ha
    have hok := of_decide_eq_true ha.1
    have hw : isW (vs.getD k.toNat 0) = true := by
      rw [List.getD_eq_getElem?_getD, List.getElem?_eq_getElem (by omega : k.toNat < vs.length)]
      exact isW_iff.2 (hv.word _ (List.getElem_mem _))
    have so0 : sideOk 0 sl = true := by simp only [sideOk, decide_eq_true_eq]; omega
    have so1 : sideOk 1 sl = true := by simp only [sideOk, decide_eq_true_eq]; omega
    have wn : 0 ≤ newI 5 0 ∧ newI 5 0 < 18446744073709551616 := newI_word (by omega) (by omega) (by omega) (by omega)
    have gs : Good T S K G Q l (if kindAt T S k = 4 ∧ ofAt T S k < sl then mstore T S K s 4 (ofAt T S k) (newI 5 0) else s).ws := by
      split
      · exact hg.lset wn _ _
      · exact hg
    obtain ⟨j, hj⟩ := nl_iter sl gn l1 c1 ws rs pt ph st (c := c) hv s0 s1 n (k + 1) _ (by omega) (by omega) gs ha.2
    refine ⟨j + 1, ?_⟩
    have e : (round sumsN1 60 5 10 2 nlL (nlA sl gn l1 l1 c1 ws rs T S K G Q pt ph st T S K G Q l c vs k s)).get = some (.normal, nlA sl gn l1 l1 c1 ws rs T S K G Q pt ph st T S K G Q l c vs (k + 1) (if kindAt T S k = 4 ∧ ofAt T S k < sl then mstore T S K s 4 (ofAt T S k) (newI 5 0) else s)) := cut_get (ct_nl ..) (by
      simp only [pt_nl, den, Tree.get_br, Tree.get_leaf, Nat.zero_add, Nat.mul_one, decide_eq_true hk, decide_eq_true (show 0 ≤ k ∧ k < (l1 : Int) from ⟨h0, hk⟩), decide_eq_true (show k.toNat < vs.length by omega), hv.right, decide_eq_true (show 0 ≤ k ∧ k < lenOf T S K by omega), hw, so0, so1, Bool.and_self, Bool.true_and, if_true, w1, cond_true, cond_false, hg.rowB, beq_iff_eq, bne_iff_ne]
      by_cases q8 : kindAt T S k = 8
      · obtain ⟨b0, b1⟩ := hok (.inl q8)
        have n4 : ¬ kindAt T S k = 4 := by omega
        rw [if_pos q8, if_neg n4]
        simp only [b0, b1, Bool.false_eq_true, if_false, if_neg n4]
        rw [if_neg (show ¬ (kindAt T S k = 4 ∧ ofAt T S k < sl) from fun x => n4 x.1)]
        refine (if_pos (decide_eq_true ?_)).trans (if_pos (decide_eq_true ?_)) <;> (simp; omega)
      rw [if_neg q8]
      by_cases q4 : kindAt T S k = 4
      · simp only [if_pos q4]
        have fin : (if decide (ofAt T S k < sl) = true then some (Ex.normal, nlA sl gn l1 l1 c1 ws rs T S K G Q pt ph st T S K G Q l c vs (k + 1) (mstore T S K s (kindAt T S k) (ofAt T S k) (newI 5 0))) else some (Ex.normal, nlA sl gn l1 l1 c1 ws rs T S K G Q pt ph st T S K G Q l c vs (k + 1) s)) = some (Ex.normal, nlA sl gn l1 l1 c1 ws rs T S K G Q pt ph st T S K G Q l c vs (k + 1) (if kindAt T S k = 4 ∧ ofAt T S k < sl then mstore T S K s 4 (ofAt T S k) (newI 5 0) else s)) := by
          by_cases q : ofAt T S k < sl
          · rw [if_pos (decide_eq_true q), if_pos (show kindAt T S k = 4 ∧ ofAt T S k < sl from ⟨q4, q⟩), q4]
          · rw [if_neg (by simpa using q), if_neg (show ¬ (kindAt T S k = 4 ∧ ofAt T S k < sl) from fun x => q x.2)]
        by_cases qs : ofAt T S k = sl
        · rw [if_neg (fun x => x qs)]
          exact fin
        · obtain ⟨b0, b1⟩ := hok (.inr ⟨q4, qs⟩)
          rw [if_pos qs]
          simp only [b0, b1, Bool.false_eq_true, if_false]
          exact fin
      · simp only [if_neg q4]
        rw [if_neg (show ¬ (kindAt T S k = 4 ∧ ofAt T S k < sl) from fun x => q4 x.1)])
    simp only [iterR, e]
    exact hj
theorem nl_step (x : List Atom) (res : Ex × List Atom) (h : (nl_t x).get = some res) : ∃ n, iterR (round sumsN1 60 5 10 2 nlL) n x = some res := by
  unfold nl_t at h
  split at h
  · rename_i sl gn l1 c1 bound k ws rs cT cS cK cG cQ pt ph st T S K G Q l c tk ts to told tnew td many sw vs
    obtain ⟨hg, h2⟩ := get_br h
    simp only [Bool.and_eq_true, decide_eq_true_eq] at hg
    obtain ⟨⟨⟨g0, g1⟩, e1, e2, e3, e4, e5, e6, e7, e8, e9⟩, g3⟩ := hg
    replace e1 := e1.symm
    replace e2 := e2.symm
    replace e3 := e3.symm
    replace e4 := e4.symm
    replace e5 := e5.symm
    replace e6 := e6.symm
    replace e7 := e7.symm
    subst e1 e2 e3 e4 e5 e6 e7
    obtain ⟨j, hj⟩ := nl_iter sl gn l1 c1 ws rs pt ph st (c := c) (goodB_iff.1 g1) e8 e9 l1 0 ⟨sw, many, tk, ts, to, told, tnew, td⟩ (by simp) (by omega) (goodB_iff.1 g0) g3
    exact ⟨j, hj.trans h2⟩
  · cases h
noncomputable def sumsN2 : Sums := withLoop sumsN1 5 10 (tlsum 2 nlL nl_t)
theorem sumsN2_ok : SumsOk sumsN2 := loop_tsum (fuel := 60) sumsN1_ok bodyNo_is keysNo_is (by show (2 : Nat) ≤ 7; omega) nl_step
end Go.Proofs.YtfmhlldfpohokaaGreat.Bound
end

section
namespace Go.Proofs.YtfmhlldfpohokaaGreat.Bound
open Go.Proofs.YtfmhlldfpohokaaGreat.Ev Go.Proofs.YtfmhlldfpohokaaGreat.ChartMath
set_option linter.unusedVariables false
set_option linter.unusedSimpArgs false
section
variable {T S K G Q : Int} {l c : Nat}
/-- It ends, within so many steps, and tells so. -/
def EndO (T S K G Q : Int) (l c : Nat) (m : Nat) (st : Nat × List Atom) (e h : Int) : Prop := ∃ n q s', n ≤ m ∧ ∀ f, n ≤ f → iterO f st = some (9, [.i e, .i h, .i q] ++ mA T S K G Q l c s')
theorem EndO.done (e h q : Int) (s : MS) : EndO T S K G Q l c 0 (9, [.i e, .i h, .i q] ++ mA T S K G Q l c s) e h := ⟨0, q, s, Nat.le_refl _, fun f _ => by
  induction f with
  | zero => rfl
  | succ f ih => exact ih (Nat.zero_le _)⟩
theorem EndO.mono {m n : Nat} {st : Nat × List Atom} {e h : Int} (x : EndO T S K G Q l c m st e h) (hn : m ≤ n) : EndO T S K G Q l c n st e h := by
  obtain ⟨k, q, s', h1, h2⟩ := x
  exact ⟨k, q, s', by omega, h2⟩
theorem EndO.step {m : Nat} {st r : Nat × List Atom} {e h : Int} (x : stepO st = some r) (hr : EndO T S K G Q l c m r e h) : EndO T S K G Q l c (m + 1) st e h := by
  obtain ⟨n, q, s', h1, h2⟩ := hr
  refine ⟨n + 1, q, s', by omega, fun f hf => ?_⟩
  cases f with
  | zero => omega
  | succ f =>
    show (match stepO st with
      | some r => iterO f r
      | none => none) = _
    rw [x]
    exact h2 f (by omega)
def mO (T S K G Q : Int) (l c : Nat) (k : Nat) (x : List Atom) (s : MS) : Nat × List Atom := (k, x ++ mA T S K G Q l c s)
variable {s : MS}
theorem o_look {sl : Int} (h : Good T S K G Q l s.ws) (s0 : 0 ≤ sl) (s1 : sl < S) : stepO (mO T S K G Q l c 0 [.i sl, .i 0, .i 0, .i 0, .i sl] s) =
    some (if stI (lat T S K s.ws 4 sl) = 0 ∧ gnI (lat T S K s.ws 4 sl) ≤ G then mO T S K G Q l c 1 [.i sl, .i (lat T S K s.ws 4 sl), .i 0, .i 0, .i 0, .i sl] (mload T S K s 4 sl)
      else if sl + 1 ≥ S then mO T S K G Q l c 9 [.i 6, .i 0, .i 0] (mload T S K s 4 sl) else mO T S K G Q l c 0 [.i (sl + 1), .i 0, .i 0, .i 0, .i (sl + 1)] (mload T S K s 4 sl)) := by
  have hc := h.cfg
  refine brI ⟨rfl, rfl, rfl, rfl⟩ ?_
  simp only [pt_op0, den, Tree.get_br, Tree.get_leaf, h.rowB, if_true, mat_lat, h.isW, wr_s (a := sl) (by omega) (by omega), bne_iff_ne]
  by_cases q0 : stI (lat T S K s.ws 4 sl) = 0
  · rw [if_neg (fun x => x q0)]
    by_cases q1 : gnI (lat T S K s.ws 4 sl) ≤ G
    · rw [if_neg (by simpa using q1), if_pos (show stI (lat T S K s.ws 4 sl) = 0 ∧ gnI (lat T S K s.ws 4 sl) ≤ G from ⟨q0, q1⟩)]
      rfl
    · rw [if_pos (by simpa using q1), if_neg (show ¬ (stI (lat T S K s.ws 4 sl) = 0 ∧ gnI (lat T S K s.ws 4 sl) ≤ G) from fun x => q1 x.2)]
      by_cases q2 : sl + 1 ≥ S
      · rw [if_pos (decide_eq_true q2), if_pos q2]; rfl
      · rw [if_neg (by simpa using q2), if_neg q2]; rfl
  · rw [if_pos q0, if_neg (show ¬ (stI (lat T S K s.ws 4 sl) = 0 ∧ gnI (lat T S K s.ws 4 sl) ≤ G) from fun x => q0 x.1)]
    by_cases q2 : sl + 1 ≥ S
    · rw [if_pos (decide_eq_true q2), if_pos q2]; rfl
    · rw [if_neg (by simpa using q2), if_neg q2]; rfl
theorem o_take {sl w : Int} (h : Good T S K G Q l s.ws) (hw : isW w = true) (ho : mok T S K s 4 sl w = true) : stepO (mO T S K G Q l c 1 [.i sl, .i w, .i 0, .i 0, .i 0, .i sl] s) = some (mO T S K G Q l c 2 [.i sl, .i w, .i 0, .i 0, .i 0] (mswap T S K s 4 sl w (moveI w 1 false))) := by
  refine brI ⟨rfl, rfl, rfl, rfl⟩ ?_
  simp only [pt_op1, den, Tree.get_br, Tree.get_leaf, h.rowB, if_true, hw, ho, Bool.not_true, Bool.false_eq_true, if_false]
  rfl
theorem o_tally {sl w : Int} (h : Good T S K G Q l s.ws) : stepO (mO T S K G Q l c 2 [.i sl, .i w, .i 0, .i 0, .i 0] s) =
    some (if lat T S K s.ws 1 0 % 16 - 1 ≥ 0 then mO T S K G Q l c 3 [.i sl, .i w, .i 0, .i 0, .i 0, .i (lat T S K s.ws 1 0), .i 0, .i (lat T S K s.ws 1 0 / 16), .i (lat T S K s.ws 1 0 % 16 - 1)] (mload T S K s 1 0)
      else mO T S K G Q l c 7 [.i sl, .i w, .i (lat T S K s.ws 1 0 / 16), .i 0, .i 0, .i 0] (mload T S K s 1 0)) := by
  refine brI ⟨rfl, rfl, rfl⟩ ?_
  simp only [pt_op2, den, Tree.get_br, Tree.get_leaf, h.rowB, if_true, mat_lat, h.isW]
  by_cases q : lat T S K s.ws 1 0 % 16 - 1 ≥ 0
  · rw [if_pos q]
    exact (if_pos (decide_eq_true q)).trans ((if_pos (decide_eq_true q)).trans rfl)
  · rw [if_neg q]
    exact (if_neg (fun x => q (of_decide_eq_true x))).trans rfl
section
variable {sl w hw hs hq hp : Int}
theorem o_help3 (h : Good T S K G Q l s.ws) : stepO (mO T S K G Q l c 3 [.i sl, .i w, .i 0, .i 0, .i 0, .i hw, .i hs, .i hq, .i hp] s) = some (mO T S K G Q l c 4 [.i sl, .i w, .i 0, .i 0, .i 0, .i hw, .i hs, .i hq, .i hp] (mswap T S K s 6 hp 0 hq)) := by
  refine brI ⟨rfl, rfl, rfl⟩ ?_
  simp only [pt_op3, den, Tree.get_br, Tree.get_leaf, h.rowB, if_true]
  rfl
theorem o_help4 (h : Good T S K G Q l s.ws) : stepO (mO T S K G Q l c 4 [.i sl, .i w, .i 0, .i 0, .i 0, .i hw, .i hs, .i hq, .i hp] s) = some (mO T S K G Q l c (if stI (lat T S K s.ws 4 hp) = 3 then 5 else 6) [.i sl, .i w, .i 0, .i 0, .i 0, .i hw, .i (lat T S K s.ws 4 hp), .i hq, .i hp] (mload T S K s 4 hp)) := by
  refine brI ⟨rfl, rfl, rfl⟩ ?_
  simp only [pt_op4, den, Tree.get_br, Tree.get_leaf, h.rowB, if_true, mat_lat, h.isW, beq_iff_eq]
  by_cases q : stI (lat T S K s.ws 4 hp) = 3
  · rw [if_pos q, if_pos q]; rfl
  · rw [if_neg q, if_neg q]; rfl
theorem o_help5 (h : Good T S K G Q l s.ws) (hh : isW hs = true) (ho : mok T S K s 4 hp hs = true) : stepO (mO T S K G Q l c 5 [.i sl, .i w, .i 0, .i 0, .i 0, .i hw, .i hs, .i hq, .i hp] s) = some (mO T S K G Q l c 6 [.i sl, .i w, .i 0, .i 0, .i 0, .i hw, .i hs, .i hq, .i hp] (mswap T S K s 4 hp hs (moveI hs 4 (bitI hs 26)))) := by
  refine brI ⟨rfl, rfl, rfl⟩ ?_
  simp only [pt_op5, den, Tree.get_br, Tree.get_leaf, h.rowB, if_true, hh, ho]
  rfl
theorem o_help6 (h : Good T S K G Q l s.ws) (hh : isW hw = true) : stepO (mO T S K G Q l c 6 [.i sl, .i w, .i 0, .i 0, .i 0, .i hw, .i hs, .i hq, .i hp] s) = some (mO T S K G Q l c 2 [.i sl, .i w, .i 0, .i 0, .i 0] (mswap T S K s 1 0 hw (setI hw))) := by
  refine brI ⟨rfl, rfl, rfl⟩ ?_
  simp only [pt_op6, den, Tree.get_br, Tree.get_leaf, h.rowB, if_true, hh]
  rfl
end
theorem o_note {sl w q : Int} (h : Good T S K G Q l s.ws) : stepO (mO T S K G Q l c 7 [.i sl, .i w, .i q, .i 0, .i 0, .i 0] s) = some (mO T S K G Q l c 8 [.i sl, .i w, .i q, .i 0, .i 0, .i 0] (mstore T S K s 5 sl q)) := by
  refine brI ⟨rfl, rfl, rfl⟩ ?_
  simp only [pt_op7, den, Tree.get_br, Tree.get_leaf, h.rowB, if_true]
  rfl
theorem o_start {sl w q : Int} (h : Good T S K G Q l s.ws) (hw : isW w = true) (hr : 0 ≤ sl ∧ sl ≤ 11 ∧ 0 ≤ gnI w ∧ gnI w ≤ 1073741823) : stepO (mO T S K G Q l c 8 [.i sl, .i w, .i q, .i 0, .i 0, .i 0] s) = some (mO T S K G Q l c 9 [.i 0, .i (mkI sl (gnI w)), .i q] (mstore T S K s 4 sl (moveI w 2 false))) := by
  refine brI ⟨rfl, rfl, rfl⟩ ?_
  simp only [pt_op8, den, Tree.get_br, Tree.get_leaf, h.rowB, if_true, hw, decide_eq_true hr]
  rfl
theorem sw_cases (s : MS) (k o old v : Int) : (mswap T S K s k o old v).ws = lset T S K s.ws k o v ∨ (mswap T S K s k o old v).ws = s.ws := by
  simp only [mswap]
  split
  · exact .inl rfl
  · exact .inr rfl
theorem sw_good {k o old v : Int} (h : Good T S K G Q l s.ws) (hv : 0 ≤ v ∧ v < 18446744073709551616) : Good T S K G Q l (mswap T S K s k o old v).ws := by
  rcases sw_cases (T := T) (S := S) (K := K) s k o old v with e | e <;> rw [e]
  · exact h.lset hv _ _
  · exact h
theorem sw_off {k o old v k' o' : Int} (hne : cellOf T S K k o ≠ cellOf T S K k' o') : lat T S K (mswap T S K s k o old v).ws k' o' = lat T S K s.ws k' o' := by
  rcases sw_cases (T := T) (S := S) (K := K) s k o old v with e | e <;> rw [e]
  exact lat_other hne
theorem cell_tal : cellOf T S K 1 0 = 0 := by unfold cellOf; simp
theorem cell_no (k o : Int) (hk : 4 ≤ k) (hT : 1 ≤ T) (hS : 1 ≤ S) : cellOf T S K k o ≠ 0 := by
  unfold cellOf; repeat' split
  all_goals omega
/-- Behind its taking a slot. -/
theorem e_note {sl w q : Int} (h : Good T S K G Q l s.ws) (hw : isW w = true) (hr : 0 ≤ sl ∧ sl ≤ 11 ∧ 0 ≤ gnI w ∧ gnI w ≤ 1073741823) (hq : 0 ≤ q ∧ q < 18446744073709551616) : EndO T S K G Q l c 2 (mO T S K G Q l c 7 [.i sl, .i w, .i q, .i 0, .i 0, .i 0] s) 0 (mkI sl (gnI w)) :=
  EndO.step (o_note h) (EndO.step (o_start (h.lset hq _ _) hw hr) (EndO.done _ _ _ _))
theorem e_tal0 {sl w : Int} (h : Good T S K G Q l s.ws) (hw : isW w = true) (hr : 0 ≤ sl ∧ sl ≤ 11 ∧ 0 ≤ gnI w ∧ gnI w ≤ 1073741823) (h0 : ¬ lat T S K s.ws 1 0 % 16 - 1 ≥ 0) : EndO T S K G Q l c 3 (mO T S K G Q l c 2 [.i sl, .i w, .i 0, .i 0, .i 0] s) 0 (mkI sl (gnI w)) := by
  have hl := h.lat 1 0
  refine EndO.step (o_tally h) ?_
  rw [if_neg h0]
  exact e_note (s := mload T S K s 1 0) h hw hr (by omega)
theorem e_set {sl w hw hs hq hp : Int} (h : Good T S K G Q l s.ws) (hww : isW w = true) (hr : 0 ≤ sl ∧ sl ≤ 11 ∧ 0 ≤ gnI w ∧ gnI w ≤ 1073741823) (ht : hw = lat T S K s.ws 1 0) : EndO T S K G Q l c 4 (mO T S K G Q l c 6 [.i sl, .i w, .i 0, .i 0, .i 0, .i hw, .i hs, .i hq, .i hp] s) 0 (mkI sl (gnI w)) := by
  subst ht
  have hl := h.lat 1 0
  have ho : mok T S K s 1 0 (lat T S K s.ws 1 0) = true := mok_lat (by rw [cell_tal]; omega)
  have hset : 0 ≤ setI (lat T S K s.ws 1 0) ∧ setI (lat T S K s.ws 1 0) < 18446744073709551616 := by unfold setI; omega
  refine EndO.step (o_help6 h (h.isW 1 0)) (e_tal0 (sw_good h hset) hww hr ?_)
  rw [mswap_ws ho, lat_same (by rw [cell_tal]; omega) (h.cell 1 0)]
  unfold setI
  omega
theorem e_tal {sl w : Int} (h : Good T S K G Q l s.ws) (hww : isW w = true) (hr : 0 ≤ sl ∧ sl ≤ 11 ∧ 0 ≤ gnI w ∧ gnI w ≤ 1073741823) : EndO T S K G Q l c 8 (mO T S K G Q l c 2 [.i sl, .i w, .i 0, .i 0, .i 0] s) 0 (mkI sl (gnI w)) := by
  have hc := h.cfg
  by_cases h0 : lat T S K s.ws 1 0 % 16 - 1 ≥ 0
  · have hl := h.lat 1 0
    refine EndO.step (m := 7) (o_tally h) ?_
    rw [if_pos h0]
    have hqw : 0 ≤ lat T S K s.ws 1 0 / 16 ∧ lat T S K s.ws 1 0 / 16 < 18446744073709551616 := by omega
    generalize lat T S K s.ws 1 0 % 16 - 1 = hp
    have g1 : Good T S K G Q l (mload T S K s 1 0).ws := h
    refine EndO.step (m := 6) (o_help3 g1) ?_
    have g2 := sw_good (k := 6) (o := hp) (old := 0) g1 hqw
    have t2 : lat T S K (mswap T S K (mload T S K s 1 0) 6 hp 0 (lat T S K s.ws 1 0 / 16)).ws 1 0 = lat T S K s.ws 1 0 := sw_off (by rw [cell_tal]; exact cell_no 6 hp (by omega) hc.1 hc.2.2.1)
    generalize mswap T S K (mload T S K s 1 0) 6 hp 0 (lat T S K s.ws 1 0 / 16) = s2 at g2 t2
    refine EndO.step (m := 5) (o_help4 g2) ?_
    by_cases q3 : stI (lat T S K s2.ws 4 hp) = 3
    · rw [if_pos q3]
      have hcell : 0 ≤ cellOf T S K 4 hp := by
        by_cases q : 0 ≤ cellOf T S K 4 hp
        · exact q
        · have : lat T S K s2.ws 4 hp = 0 := by unfold lat; rw [if_neg q]
          rw [this] at q3
          cases q3
      have ho : mok T S K (mload T S K s2 4 hp) 4 hp (lat T S K s2.ws 4 hp) = true := mok_lat hcell
      refine EndO.step (o_help5 (s := mload T S K s2 4 hp) g2 (g2.isW 4 hp) ho) ?_
      refine e_set (sw_good (s := mload T S K s2 4 hp) g2 (mv_word _ _ _ (g2.lat 4 hp))) hww hr ?_
      rw [sw_off (by rw [cell_tal]; exact cell_no 4 hp (by omega) hc.1 hc.2.2.1)]
      exact t2.symm
    · rw [if_neg q3]
      exact (e_set (s := mload T S K s2 4 hp) g2 hww hr t2.symm).mono (by omega)
  · exact (e_tal0 h hww hr h0).mono (by omega)
/-- The first slot that is free. -/
def firstF (T S K G : Int) (ws : List Int) : Nat → Int → Option Int
  | 0, _ => none
  | n + 1, k => if stI (lat T S K ws 4 k) = 0 ∧ gnI (lat T S K ws 4 k) ≤ G then some k else firstF T S K G ws n (k + 1)
theorem e_open (hG : G ≤ 1073741823) : ∀ (n : Nat) (k : Int) (s : MS), Good T S K G Q l s.ws → 0 ≤ k → k + (n + 1 : Nat) = S → EndO T S K G Q l c (n + 11) (mO T S K G Q l c 0 [.i k, .i 0, .i 0, .i 0, .i k] s) (match firstF T S K G s.ws (n + 1) k with | some _ => 0 | none => 6) (match firstF T S K G s.ws (n + 1) k with | some j => mkI j (gnI (lat T S K s.ws 4 j)) | none => 0)
  | n, k, s, h, h0, hk => by
    have hc := h.cfg
    refine EndO.step (m := n + 10) (o_look h h0 (by omega)) ?_
    by_cases q : stI (lat T S K s.ws 4 k) = 0 ∧ gnI (lat T S K s.ws 4 k) ≤ G
    · have ef : firstF T S K G s.ws (n + 1) k = some k := by simp only [firstF]; rw [if_pos q]
      rw [if_pos q, ef]
      have hcell : 0 ≤ cellOf T S K 4 k := by rw [cell_st (by omega) (by omega) h0 (by omega)]; omega
      have ho : mok T S K (mload T S K s 4 k) 4 k (lat T S K s.ws 4 k) = true := mok_lat hcell
      have hr : 0 ≤ k ∧ k ≤ 11 ∧ 0 ≤ gnI (lat T S K s.ws 4 k) ∧ gnI (lat T S K s.ws 4 k) ≤ 1073741823 := ⟨h0, by omega, by unfold gnI; omega, by omega⟩
      refine EndO.mono (m := 9) (EndO.step (o_take (s := mload T S K s 4 k) h (h.isW 4 k) ho) ?_) (by omega)
      exact e_tal (sw_good (s := mload T S K s 4 k) h (mv_word _ _ _ (h.lat 4 k))) (h.isW 4 k) hr
    · have ef : firstF T S K G s.ws (n + 1) k = firstF T S K G s.ws n (k + 1) := by simp only [firstF]; rw [if_neg q]
      rw [if_neg q, ef]
      cases n with
      | zero =>
        rw [if_pos (by omega)]
        exact (EndO.done _ _ _ _).mono (by omega)
      | succ n =>
        rw [if_neg (by omega)]
        exact (e_open hG n (k + 1) (mload T S K s 4 k) h (by omega) (by omega)).mono (by omega)
end
end Go.Proofs.YtfmhlldfpohokaaGreat.Bound
end

section
namespace Go.Proofs.YtfmhlldfpohokaaGreat.Bound
open Go.Proofs.YtfmhlldfpohokaaGreat.Ev Go.Proofs.YtfmhlldfpohokaaGreat.ChartMath
set_option linter.unusedVariables false
set_option linter.unusedSimpArgs false
theorem dropM_bits {w sl : Int} (h : 0 ≤ w ∧ w < 18446744073709551616) (hs : 0 ≤ sl ∧ sl ≤ 11) : bitI (dropM w sl) sl = false ∧ bitI (dropM w sl) (12 + sl) = false := by
  have p0 := put_word (n := sl) false h.1 h.2 (by omega) (by omega)
  unfold dropM
  constructor
  · rw [put_bit false p0.1 (by omega) (by omega) p0.2 (by omega), if_neg (by omega), put_bit false h.1 (by omega) (by omega) h.2 (by omega), if_pos rfl]
  · rw [put_bit false p0.1 (by omega) (by omega) p0.2 (by omega), if_pos rfl]
theorem dropW_bits {w sl : Int} (g : Bool) (h : 0 ≤ w ∧ w < 18446744073709551616) (hs : 0 ≤ sl ∧ sl ≤ 11) : bitI (dropW w sl g) sl = false ∧ bitI (dropW w sl g) (12 + sl) = false := by
  have w0 : 0 ≤ sideD w w 0 sl g ∧ sideD w w 0 sl g < 18446744073709551616 := sideD_word (w := w) (out := w) (sd := 0) (sl := sl) (g := g) h.1 h.2 (by simp only [sideOk, decide_eq_true_eq]; omega)
  have b0 : bitI (sideD w w 0 sl g) sl = false ∧ bitI (sideD w w 0 sl g) (12 + sl) = bitI w (12 + sl) := by
    unfold sideD
    rw [show 12 * (0 : Int) + sl = sl by omega, show (24 : Int) + 0 = 24 by omega]
    have p0 := put_word (n := sl) false h.1 h.2 (by omega) (by omega)
    cases hb : bitI w sl with
    | false => exact ⟨hb, rfl⟩
    | true =>
      have a1 : bitI (putI w sl false) sl = false := by rw [put_bit false h.1 (by omega) (by omega) h.2 (by omega), if_pos rfl]
      have a2 : bitI (putI w sl false) (12 + sl) = bitI w (12 + sl) := by rw [put_bit false h.1 (by omega) (by omega) h.2 (by omega), if_neg (by omega)]
      cases g with
      | false => exact ⟨a1, a2⟩
      | true =>
        simp only [cond_true]
        exact ⟨by rw [put_bit true p0.1 (by omega) (by omega) p0.2 (by omega), if_neg (by omega), a1], by rw [put_bit true p0.1 (by omega) (by omega) p0.2 (by omega), if_neg (by omega), a2]⟩
  have e : dropW w sl g = sideD w (sideD w w 0 sl g) 1 sl g := rfl
  rw [e]
  generalize sideD w w 0 sl g = o at w0 b0
  unfold sideD
  rw [show 12 * (1 : Int) + sl = 12 + sl by omega, show (24 : Int) + 1 = 25 by omega]
  have p0 := put_word (n := 12 + sl) false w0.1 w0.2 (by omega) (by omega)
  cases hb : bitI w (12 + sl) with
  | false => exact ⟨b0.1, b0.2.trans hb⟩
  | true =>
    have a1 : bitI (putI o (12 + sl) false) sl = false := by rw [put_bit false w0.1 (by omega) (by omega) w0.2 (by omega), if_neg (by omega), b0.1]
    have a2 : bitI (putI o (12 + sl) false) (12 + sl) = false := by rw [put_bit false w0.1 (by omega) (by omega) w0.2 (by omega), if_pos rfl]
    cases g with
    | false => exact ⟨a1, a2⟩
    | true =>
      simp only [cond_true]
      exact ⟨by rw [put_bit true p0.1 (by omega) (by omega) p0.2 (by omega), if_neg (by omega), a1], by rw [put_bit true p0.1 (by omega) (by omega) p0.2 (by omega), if_neg (by omega), a2]⟩
section
variable {p : Pm} (hp : p.Ok)
include hp
theorem drop_key2 {ws : List Int} (h : p.good ws) {k : Int} (h0 : 0 ≤ k) (h1 : k < p.K) : p.at (dropW2 p ws) 8 k = dropM (p.at ws 8 k) p.sl := by
  have hc := h.cfg
  have hcell := cell_key (T := p.T) (S := p.S) h0 h1
  have hs0 := hp.s0
  have hlen := h.cell 8 k
  have c0 : 0 ≤ cellOf p.T p.S p.K 8 k := by omega
  unfold Pm.at lat
  rw [if_pos c0, if_pos c0, List.getD_eq_getElem?_getD, List.getD_eq_getElem?_getD (l := ws) (i := (cellOf p.T p.S p.K 8 k).toNat)]
  unfold dropW2
  rw [othersF_get p _ hc.1 _ _ _ _ (by omega) (by omega), if_neg (by omega), keysF_get p (by omega) (by omega) _ _ _ _ (by omega) (by omega), if_pos (by omega), List.getD_eq_getElem?_getD]
  rfl
/-- One that was let go of, and had not been clear: its own word, and keys' words. -/
theorem swept_key {ws : List Int} (h : p.good ws) (e0 : (sweptI p ws).1 = 0) (h7 : stI (p.at ws 4 p.sl) ≠ 7) : p.at (sweptI p ws).2 4 p.sl = newI 0 (p.gn + 1) ∧ ∀ k : Int, 0 ≤ k → k < p.K → p.at (sweptI p ws).2 8 k = dropM (p.at ws 8 k) p.sl := by
  have c6 := c_num hp
  have c7 := c_ret hp
  have c4 := c_st hp
  have hs0 := hp.s0
  have hs1 := hp.s1
  have hc := h.cfg
  have ce : cellOf p.T p.S p.K 2 0 = 1 := cell_ep
  have ck : ∀ k : Int, 0 ≤ k → k < p.K → cellOf p.T p.S p.K 8 k = 2 + p.T + 4 * p.S + k := fun k k0 k1 => cell_key k0 k1
  have re : ∀ {vs : List Int}, p.good vs → ∀ st (k : Int), 0 ≤ k → k < p.K → p.at (retireW p vs st) 8 k = p.at vs 8 k := by
    intro vs hv st k k0 k1
    have := ck k k0 k1
    unfold retireW noteW
    rw [at_ne (by omega), at_ne (by omega), at_off hp hv (by omega)]
  have fin : ∀ {vs : List Int}, p.good vs → ∀ k : Int, 0 ≤ k → k < p.K → p.at (finalW p vs) 8 k = p.at vs 8 k := by
    intro vs hv k k0 k1
    have := ck k k0 k1
    unfold finalW
    rw [at_off hp (hv.lset (by omega) _ _) (by omega), at_ne (by omega)]
  have eB : ∀ {vs : List Int} (r : Int), p.good vs → (endB p vs r).1 = 0 → p.at (endB p vs r).2 4 p.sl = newI 0 (p.gn + 1) ∧ ∀ k : Int, 0 ≤ k → k < p.K → p.at (endB p vs r).2 8 k = dropM (p.at vs 8 k) p.sl := by
    intro vs r hv he
    have hd := drop_good hp hv
    unfold endB at he ⊢
    by_cases e : heldI p vs r = true
    · rw [if_pos e] at he; cases he
    · rw [if_neg e] at he ⊢
      rcases endT_cases hp (retireW p (dropW2 p vs) 7) (p.at (dropW2 p vs) 2 0) with ⟨e2, _⟩ | e2
      · rw [e2] at he; cases he
      · rw [e2]
        refine ⟨final_st hp (retire_good hp hd 7), fun k k0 k1 => ?_⟩
        rw [fin (retire_good hp hd 7) k k0 k1, re hd 7 k k0 k1, drop_key2 hp hv k0 k1]
  unfold sweptI at e0 ⊢
  by_cases q1 : gnI (p.at ws 4 p.sl) ≠ p.gn ∨ stI (p.at ws 4 p.sl) = 0 ∨ stI (p.at ws 4 p.sl) = 1
  · rw [if_pos q1] at e0; cases e0
  rw [if_neg q1] at e0 ⊢
  by_cases q2 : bitI (p.at ws 4 p.sl) 26 = true
  · rw [if_pos q2] at e0; cases e0
  rw [if_neg q2] at e0 ⊢
  by_cases q3 : stI (p.at ws 4 p.sl) = 2 ∨ stI (p.at ws 4 p.sl) = 3
  · rw [if_pos q3] at e0; cases e0
  rw [if_neg q3] at e0 ⊢
  by_cases q4 : stI (p.at ws 4 p.sl) = 4 ∧ laterF p ws p.sl (p.at ws 6 p.sl) p.S.toNat 0 = true
  · rw [if_pos q4] at e0; cases e0
  rw [if_neg q4, if_neg h7] at e0 ⊢
  by_cases q6 : stI (p.at ws 4 p.sl) = 6
  · rw [if_pos q6] at e0 ⊢
    exact eB _ h e0
  · rw [if_neg q6] at e0 ⊢
    obtain ⟨a, b⟩ := eB _ (retire_good hp h 6) e0
    exact ⟨a, fun k k0 k1 => by rw [b k k0 k1, re h 6 k k0 k1]⟩
end
theorem lat_cell {T S K k : Int} {ws : List Int} (h0 : 0 ≤ k) (h1 : k < lenOf T S K) : ws.getD k.toNat 0 = lat T S K ws (kindAt T S k) (ofAt T S k) := by
  unfold lat
  rw [cell_at h0 h1, if_pos h0]
theorem all_v {T S K sl : Int} {vs : List Int} (hk : ∀ k : Int, 0 ≤ k → k < K → bitI (lat T S K vs 8 k) (12 * 0 + sl) = false ∧ bitI (lat T S K vs 8 k) (12 * 1 + sl) = false) (hs : ∀ k : Int, 0 ≤ k → k < S → k ≠ sl → bitI (lat T S K vs 4 k) (12 * 0 + sl) = false ∧ bitI (lat T S K vs 4 k) (12 * 1 + sl) = false) (hT : 1 ≤ T) (hS : 1 ≤ S) :
    ∀ (n : Nat) (k : Int), 0 ≤ k → k + n ≤ lenOf T S K → allV T S sl vs n k = true
  | 0, _, _, _ => rfl
  | n + 1, k, h0, h1 => by
    have hlo : lenOf T S K = 2 + T + 4 * S + K := rfl
    simp only [allV, Bool.and_eq_true]
    refine ⟨decide_eq_true fun hx => ?_, all_v hk hs hT hS n (k + 1) (by omega) (by omega)⟩
    rw [lat_cell (T := T) (S := S) (K := K) h0 (by omega)]
    rcases hx with e | ⟨e, e2⟩
    · rw [e]
      refine hk _ ?_ ?_
      all_goals
        unfold kindAt at e
        unfold ofAt
        repeat' split at e
        all_goals (repeat' split) <;> omega
    · rw [e]
      refine hs _ ?_ ?_ e2
      all_goals
        unfold kindAt at e
        unfold ofAt
        repeat' split at e
        all_goals (repeat' split) <;> omega
theorem endM_all {T S K G Q sl : Int} {l : Nat} (hT : 1 ≤ T) (hS : 1 ≤ S) (hK : 1 ≤ K) {j : Int} (j0 : 0 ≤ j) (j1 : j < S) : ∀ (n : Nat) (k : Int) (s : MS), Good T S K G Q l s.ws → 0 ≤ k → k + n ≤ l →
    Good T S K G Q l (endM T S K sl n k s).ws ∧ lat T S K (endM T S K sl n k s).ws 4 j = if j < sl ∧ k ≤ 2 + T + 4 * j ∧ 2 + T + 4 * j < k + n then newI 5 0 else lat T S K s.ws 4 j
  | 0, k, s, hg, h0, h1 => ⟨hg, by rw [if_neg (by omega)]; rfl⟩
  | n + 1, k, s, hg, h0, h1 => by
    have hll := hg.ll
    have cj := cell_st (T := T) (K := K) (k := 4) (by omega) (by omega) j0 j1
    have wn : 0 ≤ newI 5 0 ∧ newI 5 0 < 18446744073709551616 := newI_word (by omega) (by omega) (by omega) (by omega)
    have ck := cell_at (T := T) (S := S) (K := K) h0 (show k < lenOf T S K by omega)
    have gs : Good T S K G Q l (if kindAt T S k = 4 ∧ ofAt T S k < sl then mstore T S K s 4 (ofAt T S k) (newI 5 0) else s).ws := by
      split
      · exact hg.lset wn _ _
      · exact hg
    obtain ⟨i1, i2⟩ := endM_all (sl := sl) hT hS hK j0 j1 n (k + 1) _ gs (by omega) (by omega)
    refine ⟨i1, ?_⟩
    show lat T S K (endM T S K sl n (k + 1) _).ws 4 j = _
    rw [i2]
    by_cases e : k = 2 + T + 4 * j
    · have ac := at_cell (T := T) (S := S) (K := K) (kind := 4) (of := j) (by omega) (by omega) (by omega) (by omega)
      rw [show cellOf T S K 4 j = k by omega] at ac
      rw [if_neg (by omega), ac.2.1, ac.2.2]
      by_cases q : j < sl
      · rw [if_pos ⟨rfl, q⟩, if_pos (by omega)]
        exact lat_same (by omega) (hg.cell _ _)
      · rw [if_neg (fun x => q x.2), if_neg (by omega)]
    · have same : lat T S K (if kindAt T S k = 4 ∧ ofAt T S k < sl then mstore T S K s 4 (ofAt T S k) (newI 5 0) else s).ws 4 j = lat T S K s.ws 4 j := by
        split
        · rename_i q
          refine lat_other ?_
          rw [q.1] at ck
          omega
        · rfl
      rw [same]
      by_cases q : j < sl ∧ k + 1 ≤ 2 + T + 4 * j ∧ 2 + T + 4 * j < k + 1 + n
      · rw [if_pos q, if_pos (by omega)]
      · rw [if_neg q, if_neg (by omega)]
theorem firstF_some {T S K G : Int} {ws : List Int} : ∀ (n : Nat) (k j : Int), firstF T S K G ws n k = some j → k ≤ j ∧ j < k + n ∧ stI (lat T S K ws 4 j) = 0 ∧ gnI (lat T S K ws 4 j) ≤ G
  | 0, k, j, h => by cases h
  | n + 1, k, j, h => by
    simp only [firstF] at h
    by_cases q : stI (lat T S K ws 4 k) = 0 ∧ gnI (lat T S K ws 4 k) ≤ G
    · rw [if_pos q] at h
      cases h
      exact ⟨by omega, by omega, q⟩
    · rw [if_neg q] at h
      obtain ⟨a, b, c⟩ := firstF_some n (k + 1) j h
      exact ⟨by omega, by omega, c⟩
theorem firstF_is {T S K G : Int} {ws : List Int} {j : Int} (hj : stI (lat T S K ws 4 j) = 0 ∧ gnI (lat T S K ws 4 j) ≤ G) : ∀ (n : Nat) (k : Int), k ≤ j → j < k + n → (∀ i, k ≤ i → i < j → stI (lat T S K ws 4 i) ≠ 0) → firstF T S K G ws n k = some j
  | 0, k, h0, h1, _ => by omega
  | n + 1, k, h0, h1, hb => by
    simp only [firstF]
    by_cases e : k = j
    · subst e
      rw [if_pos hj]
    · rw [if_neg (fun x => hb k (by omega) (by omega) x.1)]
      exact firstF_is hj n (k + 1) (by omega) (by omega) fun i h2 h3 => hb i (by omega) h3
end Go.Proofs.YtfmhlldfpohokaaGreat.Bound
end

section
namespace Go.Proofs.YtfmhlldfpohokaaGreat.Bound
open Go.Proofs.YtfmhlldfpohokaaGreat.Ev Go.Proofs.YtfmhlldfpohokaaGreat.ChartMath
set_option linter.unusedVariables false
set_option linter.unusedSimpArgs false
/-- An Open that begins. -/
def begO (T S K G Q : Int) (l : Nat) (s : MS) : List Atom := [.i 0, .i 0, .i 0, .i 0, .i 0] ++ mA T S K G Q l l s
noncomputable def runN (T S K G Q sl : Int) (l : Nat) (R : Option ER) : Option (Int × Int × Int) := runO (100 - 0 : Int).toNat 0 (begO T S K G Q l (endM T S K sl l 0 (R.getD dfR).s))
section
variable (T S K G Q : Int) (l cl : Nat) (cells : List Int) (pt ph : Int)
noncomputable def pt_nn (sl gn : Int) (R : Option ER) (O : Option (Int × Int × Int)) : PT Value := qOf T S K G Q l cl cells
  (.b (isW ph) (.b (!okT ph S) (.b (isW ph) (.cs 4 (.b (!okT ph S) (.cs 8 qTrue) .bad)) .bad)
    (.cs 4 (.b (isW ph) (.b (isW ph) (.cs 4 (.b (!okT ph S) .bad (.cs 3 (.b (rowL T S K G Q l cells && decide (0 ≤ cellOf T S K 4 sl)) (.cs 1 (.b (isW (lat T S K cells 4 sl)) (.cs 1 (.b (stI (lat T S K cells 4 sl) == 7) (.cs 1 qTrue)
      (.cs 1 (.b R.isSome (.b ((R.getD dfR).e != 0) (.cs 2 qTrue) (qCells T S K G Q l (R.getD dfR).s
        (.b (goodB T S K G Q l (R.getD dfR).s.ws && goodB T S K G Q l (R.getD dfR).s.ws && decide (T = T ∧ S = S ∧ K = K ∧ G = G ∧ Q = Q ∧ (0 : Int) = 0 ∧ (l : Int) = l ∧ 0 ≤ sl ∧ sl ≤ 11) && allV T S sl (R.getD dfR).s.ws l 0) (.cs 2 (.b O.isSome
          (.b (decide (gn ≥ G)) (.b (isW (O.getD (0, 0, 0)).2.1) (.cs 6 (.b ((O.getD (0, 0, 0)).1 != 0) (.cs 4 qTrue) (.cs 3 (.leaf (.bool (bif true then bif false then true else (if okT (O.getD (0, 0, 0)).2.1 S = true then slI (O.getD (0, 0, 0)).2.1 else 0) != sl else false)))))) .bad)
            (.cs 3 (.b (bif true then (O.getD (0, 0, 0)).1 == 0 else false) (.cs 5 (.leaf (.bool (bif true then (O.getD (0, 0, 0)).2.1 == IntKind.u64.wrap (ph + 16) else false)))) (.cs 6 (.leaf (.bool false)))))) .bad)) .bad))) .bad)))) .bad)) .bad)))) .bad) .bad))) .bad)
  (.b (isW ph) (.b (!okT ph S) (.b (isW ph) (.cs 15 qTrue) .bad) (.cs 4 (.b (isW ph) (.b (isW ph) (.cs 15 qTrue) .bad) .bad))) .bad)
end
theorem ct_nn0 (T S K G Q : Int) (l : Nat) (cells : List Int) (pt ph steps : Int) (cl : Nat) : cutP (pt_nn T S K G Q l cl cells ph (if okT ph S = true then slI ph else 0) (if okT ph S = true then genI ph else 0) (runQ T S K G Q pt ph l (zeroS cells)) (runN T S K G Q (if okT ph S = true then slI ph else 0) l (runQ T S K G Q pt ph l (zeroS cells)))) (valT (ev sumsN2 60 5 [.agg #[.int .i64 T, .int .i64 S, .int .i64 K, .int .i64 G, .int .u64 Q], .slice (some ⟨0, 0, none⟩) l cl, .agg #[.int .i64 pt, .int .u64 ph, .int .i64 steps, .slice none 0 0]] (winsH [⟨0, 0, 0, .ints .u64 cells⟩, ⟨1, 0, 0, .recs pokeR []⟩]))) = den (pt_nn T S K G Q l cl cells ph (if okT ph S = true then slI ph else 0) (if okT ph S = true then genI ph else 0) (runQ T S K G Q pt ph l (zeroS cells)) (runN T S K G Q (if okT ph S = true then slI ph else 0) l (runQ T S K G Q pt ph l (zeroS cells)))) := by kernel_rfl
theorem ct_nn1 (T S K G Q : Int) (l : Nat) (cells : List Int) (rs : List (List Int)) (pt ph steps : Int) (n cc cl : Nat) : cutP (pt_nn T S K G Q l cl cells ph (if okT ph S = true then slI ph else 0) (if okT ph S = true then genI ph else 0) (runQ T S K G Q pt ph l (zeroS cells)) (runN T S K G Q (if okT ph S = true then slI ph else 0) l (runQ T S K G Q pt ph l (zeroS cells)))) (valT (ev sumsN2 60 5 [.agg #[.int .i64 T, .int .i64 S, .int .i64 K, .int .i64 G, .int .u64 Q], .slice (some ⟨0, 0, none⟩) l cl, .agg #[.int .i64 pt, .int .u64 ph, .int .i64 steps, .slice (some ⟨1, 0, some 16384⟩) n cc]] (winsH [⟨0, 0, 0, .ints .u64 cells⟩, ⟨1, 0, 0, .recs pokeR rs⟩]))) = den (pt_nn T S K G Q l cl cells ph (if okT ph S = true then slI ph else 0) (if okT ph S = true then genI ph else 0) (runQ T S K G Q pt ph l (zeroS cells)) (runN T S K G Q (if okT ph S = true then slI ph else 0) l (runQ T S K G Q pt ph l (zeroS cells)))) := by kernel_rfl
theorem runN_is {T S K G Q sl : Int} {l : Nat} {R : ER} {e h : Int} (x : EndO T S K G Q l l 100 (mO T S K G Q l l 0 [.i 0, .i 0, .i 0, .i 0, .i 0] (endM T S K sl l 0 R.s)) e h) : ∃ q, runN T S K G Q sl l (some R) = some (e, h, q) := by
  obtain ⟨n, q, s', h1, h2⟩ := x
  have := h2 100 h1
  refine ⟨q, ?_⟩
  unfold runN
  rw [runO_is]
  show asO (iterO 100 (mO T S K G Q l l 0 [.i 0, .i 0, .i 0, .i 0, .i 0] (endM T S K sl l 0 R.s))) = _
  rw [this]
  rfl
theorem mk_slot {S j g : Int} (j0 : 0 ≤ j) (j1 : j < S) (j2 : j ≤ 11) (g0 : 0 ≤ g) (g1 : g ≤ 1073741823) : isW (mkI j g) = true ∧ okT (mkI j g) S = true ∧ slI (mkI j g) = j := by
  have e1 : mkI j g = 16 * g + j + 1 := rfl
  have e2 : slB (mkI j g) = true := decide_eq_true (by omega)
  have e3 : slI (mkI j g) = j := by
    unfold slI
    rw [if_pos e2]
    omega
  have e4 : genI (mkI j g) = g := by
    unfold genI
    rw [if_neg (by omega)]
    omega
  refine ⟨isW_iff.2 (by omega), ?_, e3⟩
  unfold okT
  rw [e2, e3, e4, decide_eq_true j1, decide_eq_true g1]
  rfl
theorem nn_get (T S K G Q : Int) (l cl : Nat) (cells : List Int) (pt ph : Int) (hl : cells.length = l) (hw : ∀ w ∈ cells, 0 ≤ w ∧ w < 18446744073709551616) (hph : 0 ≤ ph ∧ ph < 18446744073709551616) : (den (pt_nn T S K G Q l cl cells ph (if okT ph S = true then slI ph else 0) (if okT ph S = true then genI ph else 0) (runQ T S K G Q pt ph l (zeroS cells)) (runN T S K G Q (if okT ph S = true then slI ph else 0) l (runQ T S K G Q pt ph l (zeroS cells))))).get = some (.bool true) := by
  have hW : isW ph = true := isW_iff.2 hph
  have hI : cdec (of_I ([.i T] ++ ([.i S] ++ ([.i K] ++ ([.i G] ++ ([.i Q] ++ [])))) ++ ([.n l, .n cl] ++ []) ++ ([.ws cells] ++ []))) = true := cdec_true hl
  unfold pt_nn qOf
  simp only [den, Tree.get_br, hI, hW, if_true, Bool.and_true]
  cases hr : isRow T S K G Q l with
  | false => cases okT ph S <;> rfl
  | true =>
    simp only [isRow, Bool.and_eq_true, decide_eq_true_eq] at hr
    have hg : Good T S K G Q l (zeroS cells).ws := ⟨hr.1, hl, hr.2, hw⟩
    have hg0 : Good T S K G Q l cells := hg
    simp only [if_true]
    cases hk : okT ph S with
    | false => rfl
    | true =>
      have hp := pmOf_ok (T := T) (K := K) (G := G) (Q := Q) (own := pt) (l := l) hW hk
      have hc := hg.cfg
      have hR := hr.1
      simp only [right, decide_eq_true_eq] at hR
      have s0 : 0 ≤ slI ph := hp.s0
      have s1 : slI ph < S := hp.s1
      have s2 : slI ph ≤ 11 := hp.s2
      have g0 : 0 ≤ genI ph := hp.g0
      have g1 : genI ph ≤ 1073741823 := hp.g1
      have hpq : ph = mkI (slI ph) (genI ph) := by
        simp only [okT, slB, Bool.and_eq_true, decide_eq_true_eq] at hk
        unfold mkI
        have e : slI ph = ph % 16 - 1 := by unfold slI slB; rw [if_pos (decide_eq_true ⟨by omega, by omega⟩)]
        have e2 : genI ph = ph / 16 := by
          unfold genI at g1 ⊢
          split
          · rename_i q; rw [if_pos q] at g1; omega
          · rfl
        omega
      have c4 : 0 ≤ cellOf T S K 4 (slI ph) := by rw [cell_st (by omega) (by omega) s0 s1]; omega
      have r0 : rowL T S K G Q l cells = true := rowL_iff.2 ⟨hg0.right, hg0.len, hg0.ll⟩
      obtain ⟨R, a1, a2, a3⟩ := runQ_is (pt := pt) hg hW hk
      have a2 : R.e = (sweptI (pmOf T S K G Q pt ph l) cells).1 := a2
      have a3 : R.s.ws = (sweptI (pmOf T S K G Q pt ph l) cells).2 := a3
      have hg1 : Good T S K G Q l R.s.ws := by rw [a3]; exact swept_good hp hg
      rw [a1]
      simp only [Bool.not_true, Bool.false_eq_true, if_false, if_true, r0, hg0.isW, decide_eq_true c4, Bool.and_self, Option.isSome_some, Option.getD_some, beq_iff_eq, bne_iff_ne]
      by_cases h7 : stI (lat T S K cells 4 (slI ph)) = 7
      · rw [if_pos h7]; rfl
      rw [if_neg h7]
      by_cases h0 : R.e = 0
      · have e0 : (sweptI (pmOf T S K G Q pt ph l) cells).1 = 0 := by rw [← a2]; exact h0
        obtain ⟨k1, k2⟩ := swept_key hp hg0 e0 h7
        have k1 : lat T S K R.s.ws 4 (slI ph) = newI 0 (genI ph + 1) := by rw [a3]; exact k1
        have hall : allV T S (slI ph) R.s.ws l 0 = true := by
          refine all_v (K := K) (fun k q0 q1 => ?_) (fun k q0 q1 q2 => ?_) (by omega) (by omega) l 0 (by omega) (by have := hr.2; omega)
          · have so : lat T S K R.s.ws 8 k = dropM (lat T S K cells 8 k) (slI ph) := by
              rw [a3]
              exact k2 k q0 q1
            rw [so, show 12 * (0 : Int) + slI ph = slI ph by omega, show 12 * (1 : Int) + slI ph = 12 + slI ph by omega]
            exact dropM_bits (hg0.lat 8 k) ⟨s0, s2⟩
          · have so : lat T S K R.s.ws 4 k = dropW (lat T S K cells 4 k) (slI ph) (lat T S K cells 6 (slI ph) != 0) := by
              rw [a3]
              exact swept_other hp hg0 e0 h7 q0 (show k < S by omega) q2
            rw [so, show 12 * (0 : Int) + slI ph = slI ph by omega, show 12 * (1 : Int) + slI ph = 12 + slI ph by omega]
            exact dropW_bits _ (hg0.lat 4 k) ⟨s0, s2⟩
        have hE : ∀ j : Int, 0 ≤ j → j < S → Good T S K G Q l (endM T S K (slI ph) l 0 R.s).ws ∧ lat T S K (endM T S K (slI ph) l 0 R.s).ws 4 j = if j < slI ph then newI 5 0 else lat T S K R.s.ws 4 j := by
          intro j j0 j1
          obtain ⟨b1, b2⟩ := endM_all (sl := slI ph) (by omega) (by omega) (by omega) j0 j1 l 0 R.s hg1 (by omega) (by omega)
          refine ⟨b1, b2.trans ?_⟩
          have hlo : lenOf T S K = 2 + T + 4 * S + K := rfl
          have := hr.2
          by_cases q : j < slI ph
          · rw [if_pos q, if_pos (by omega)]
          · rw [if_neg q, if_neg (by omega)]
        have hgE := (hE 0 (by omega) (by omega)).1
        have ko := (hE (slI ph) s0 s1).2
        rw [if_neg (by omega), k1] at ko
        obtain ⟨n, hn⟩ : ∃ n : Nat, 0 + ((n + 1 : Nat) : Int) = S := ⟨(S - 1).toNat, by omega⟩
        have hx := (e_open (l := l) (c := l) (Q := Q) (by omega) n 0 _ hgE (by omega) hn).mono (n := 100) (by omega)
        obtain ⟨q, hO⟩ := runN_is hx
        rw [if_neg (fun x => x h0), get_cells hg1]
        simp only [den, Tree.get_br]
        rw [if_pos (by rw [goodB_iff.2 hg1, hall]; simp; exact ⟨s0, s2⟩), hO]
        simp only [Option.isSome_some, if_true, Option.getD_some, cond_true, cond_false]
        by_cases q0 : genI ph ≥ G
        · rw [if_pos (decide_eq_true q0)]
          cases hf : firstF T S K G (endM T S K (slI ph) l 0 R.s).ws (n + 1) 0 with
          | none => rfl
          | some j =>
            obtain ⟨f0, f1, f2, f3⟩ := firstF_some _ _ _ hf
            have hj : j ≠ slI ph := by
              intro e
              rw [e, ko, new_gn (by omega) (by omega)] at f3
              omega
            obtain ⟨m1, m2, m3⟩ := mk_slot (S := S) (j := j) (g := gnI (lat T S K (endM T S K (slI ph) l 0 R.s).ws 4 j)) f0 (by omega) (by omega) (by unfold gnI; omega) (by omega)
            simp only [m1, m2, m3, if_true, Tree.get_leaf]
            rw [bne_iff_ne.2 hj]
            rfl
        · rw [if_neg (by simpa using q0)]
          have hf : firstF T S K G (endM T S K (slI ph) l 0 R.s).ws (n + 1) 0 = some (slI ph) := by
            refine firstF_is ⟨?_, ?_⟩ _ _ s0 (by omega) fun i i0 i1 => ?_
            · rw [ko]; unfold stI newI; omega
            · rw [ko, new_gn (by omega) (by omega)]; omega
            · rw [(hE i i0 (by omega)).2, if_pos i1]
              decide
          rw [hf]
          simp only [ko, new_gn (g := genI ph + 1) (by omega) (by omega)]
          refine congrArg (fun b => some (Value.bool b)) (beq_iff_eq.2 ?_)
          unfold mkI at hpq ⊢
          rw [show IntKind.u64.wrap (ph + 16) = ph + 16 from wrap_id (by omega) (by omega)]
          omega
      · rw [if_pos h0]; rfl
def qzk (S ph : Int) : PT Value := .b (isW ph) (.b (!okT ph S) (.b (isW ph) (.cs 15 qTrue) .bad) (.cs 4 (.b (isW ph) (.b (isW ph) (.cs 15 qTrue) .bad) .bad))) .bad
def pt_lzk (T S K G Q ph : Int) : PT Value := .b (!right T S K G Q) (.cs 6 (qzk S ph)) (.cs 4 (.b (((0 : Nat) : Int) != lenA T S K G Q) (qzk S ph) .bad))
noncomputable def sumsZK : Sums := withIf sumsZ 20 ofTS
theorem sumsZK_ok : SumsOk sumsZK := ofTS_ok sumsZ_ok (by kernel_rfl) fun h s a b => ro_is a b
theorem ct_lzk0 (T S K G Q pt ph steps : Int) : cutP (pt_lzk T S K G Q ph) (valT (ev sumsZK 60 5 [.agg #[.int .i64 T, .int .i64 S, .int .i64 K, .int .i64 G, .int .u64 Q], .slice none 0 0, .agg #[.int .i64 pt, .int .u64 ph, .int .i64 steps, .slice none 0 0]] ⟨.nil, 0⟩)) = den (pt_lzk T S K G Q ph) := by kernel_rfl
theorem ct_lzk1 (T S K G Q pt ph steps : Int) (n cc : Nat) : cutP (pt_lzk T S K G Q ph) (valT (ev sumsZK 60 5 [.agg #[.int .i64 T, .int .i64 S, .int .i64 K, .int .i64 G, .int .u64 Q], .slice none 0 0, .agg #[.int .i64 pt, .int .u64 ph, .int .i64 steps, .slice (some ⟨0, 0, some 16384⟩) n cc]] (winsH [⟨0, 0, 0, .recs pokeR []⟩]))) = den (pt_lzk T S K G Q ph) := by kernel_rfl
theorem lzk_get (T S K G Q ph : Int) (hph : 0 ≤ ph ∧ ph < 18446744073709551616) : (den (pt_lzk T S K G Q ph)).get = some (.bool true) := by
  have hW : isW ph = true := isW_iff.2 hph
  have hq : (den (qzk S ph)).get = some (.bool true) := by
    unfold qzk
    simp only [den, Tree.get_br, hW, if_true]
    cases okT ph S <;> rfl
  unfold pt_lzk
  simp only [den, Tree.get_br, hq]
  cases hR : right T S K G Q with
  | false => rfl
  | true =>
    have hR2 := hR
    simp only [right, decide_eq_true_eq] at hR2
    have : (((0 : Nat) : Int) != lenA T S K G Q) = true := by
      rw [bne_iff_ne]
      simp only [lenA, hR, cond_true, lenOf]
      omega
    simp only [Bool.not_true, Bool.false_eq_true, if_false, this, if_true]
end Go.Proofs.YtfmhlldfpohokaaGreat.Bound
end
