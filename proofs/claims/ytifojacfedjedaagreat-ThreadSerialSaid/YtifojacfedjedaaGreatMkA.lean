/- Whether a slot is marked, marks and conflicts laid into words: as sums. No condition. The slots of a kind that mark a word, but one: mark.Others, walked. Conditions stand in the statements. A mark, or a conflict, laid into a word: as sums. No condition. -/
import Derived.Test.YtifojacfedjedaaGreatMcGQ
import Derived.RangeFuncNested
import Derived.RangeFuncBound
import Derived.RangeFuncCalls
import Derived.RangeFuncLeaves
import Derived.RangeFuncBox
import Derived.Shelf.Abstract
import Derived.Shelf.RegionOpen
import Derived.WalkKit
import Derived.OwnWalkIn
import Derived.TacticsInMore
import Derived.LoopNIn
import Derived.LoopIn
import Derived.Maps.AppendAt
section
namespace Go.Proofs.YtifojacfedjedaaGreat.Bound
open Go.Proofs.YtifojacfedjedaaGreat.Ev Go.Proofs.YtifojacfedjedaaGreat.ChartMath
set_option linter.unusedVariables false
set_option linter.unusedSimpArgs false
def pt_mh (w sl j : Int) (n : Nat) : PT Value := .cs n (.b (decide (sl < 0)) .bad (.cs 1 (.b (decide (sl ≥ 12)) .bad (.b (decide (sl < 0)) .bad (.cs 1 (.leaf (.bool (decide (IntKind.u64.wrap (↑(BitVec.ofInt IntKind.u64.bits w &&& BitVec.ofInt IntKind.u64.bits (IntKind.u64.wrap (IntKind.u64.wrap ((1 : Int) * (2 : Int) ^ min sl.toNat IntKind.u64.bits) * (2 : Int) ^ min (IntKind.i64.wrap (j * (12 : Int))).toNat IntKind.u64.bits))).toNat : Int) > (0 : Int))))))))))
theorem ct_mh0 (w sl : Int) : cutP (pt_mh w sl 0 5) (valT (ev sumsF4 60 223 [.int .u64 w, .int .i64 0, .int .i64 sl] ⟨.nil, 0⟩)) = den (pt_mh w sl 0 5) := by kernel_rfl
theorem ct_mh1 (w sl : Int) : cutP (pt_mh w sl 1 4) (valT (ev sumsF4 60 223 [.int .u64 w, .int .i64 1, .int .i64 sl] ⟨.nil, 0⟩)) = den (pt_mh w sl 1 4) := by kernel_rfl
theorem gt_bit {w n : Int} (h0 : 0 ≤ w) (h1 : w < 18446744073709551616) (h2 : n ≤ 40) : decide (IntKind.u64.wrap (↑(BitVec.ofInt IntKind.u64.bits w &&& BitVec.ofInt IntKind.u64.bits (pw n)).toNat : Int) > 0) = bitI w n := by
  have e := and_bit h0 h1 h2
  have r := u64_range (↑(BitVec.ofInt IntKind.u64.bits w &&& BitVec.ofInt IntKind.u64.bits (pw n)).toNat : Int)
  rw [← e, Bool.eq_iff_iff, decide_eq_true_eq, bne_iff_ne]
  omega
theorem mh_is {w sl kd : Int} (h0 : 0 ≤ w) (h1 : w < 18446744073709551616) (s0 : 0 ≤ sl) (s1 : sl ≤ 11) (hk : kd = 0 ∨ kd = 1) : outV (ev sumsF4 60 223 [.int .u64 w, .int .i64 kd, .int .i64 sl] ⟨.nil, 0⟩) = some (.bool (bitI w (12 * kd + sl))) := by
  have n0 : ¬ sl < 0 := by omega
  have n1 : ¬ sl ≥ 12 := by omega
  rcases hk with rfl | rfl
  · refine valT_out (cut_get (ct_mh0 w sl) ?_)
    simp only [pt_mh, den, Tree.get_br, Tree.get_leaf, decide_eq_false n0, decide_eq_false n1, Bool.false_eq_true, if_false]
    rw [bit_a s0 s1, show (((2 ^ sl.toNat : Nat) : Int)) = pw sl from rfl, gt_bit h0 h1 (by omega), show 12 * (0 : Int) + sl = sl by omega]
  · refine valT_out (cut_get (ct_mh1 w sl) ?_)
    simp only [pt_mh, den, Tree.get_br, Tree.get_leaf, decide_eq_false n0, decide_eq_false n1, Bool.false_eq_true, if_false]
    rw [bit_b s0 s1, show (((2 ^ (12 + sl).toNat : Nat) : Int)) = pw (12 + sl) from rfl, gt_bit h0 h1 (by omega), show 12 * (1 : Int) + sl = 12 + sl by omega]
def mhS : List Value → Option (Bool × Value)
  | [.int .u64 w, .int .i64 kd, .int .i64 sl] => some (isW w && decide (0 ≤ kd ∧ kd ≤ 1 ∧ 0 ≤ sl ∧ sl ≤ 11), .bool (bitI w (12 * kd + sl)))
  | _ => none
theorem mhS_ok {sums : Sums} (hs : SumsOk sums) : SumsOk (withIf sums 223 mhS) := withIf_ok hs sumsF4_ok 60 (by kernel_rfl) fun al v h => by
  unfold mhS at h
  split at h
  · simp only [Option.some.injEq, Prod.mk.injEq, Bool.and_eq_true, decide_eq_true_eq, isW_iff] at h
    obtain ⟨⟨⟨h0, h1⟩, h2, h3, h4, h5⟩, rfl⟩ := h
    exact ⟨rfl, rfl, mh_is h0 h1 h4 h5 (by omega)⟩
  · cases h
end Go.Proofs.YtifojacfedjedaaGreat.Bound
end

section
namespace Go.Proofs.YtifojacfedjedaaGreat.Bound
open Go.RowKit Go.Shelf Go.Proofs.YtifojacfedjedaaGreat.Ev Go.Proofs.YtifojacfedjedaaGreat.ChartMath
set_option linter.unusedVariables false
set_option linter.unusedSimpArgs false
attribute [local go_sem] Oper.semAt_some
/-- The slots below one that mark a word. -/
def marksTo (w kd : Int) (n : Nat) : List Int := ((List.range n).map fun k : Nat => (k : Int)).filter fun x => bitI w (12 * kd + x)
theorem marksTo_succ (w kd : Int) (n : Nat) : marksTo w kd (n + 1) = marksTo w kd n ++ (if bitI w (12 * kd + (n : Int)) = true then [(n : Int)] else []) := by
  unfold marksTo
  rw [List.range_succ, List.map_append, List.filter_append]
  congr 1
  simp only [List.map_cons, List.map_nil, List.filter_cons, List.filter_nil]
theorem marksTo_len (w kd : Int) (n : Nat) : (marksTo w kd n).length ≤ n := Nat.le_trans (List.length_filter_le _ _) (by simp)
def othL (w kd sl : Int) : List Int := (marksTo w kd 12).filter fun x => x != sl
def othP (sl : Int) (l : List Int) : List Int := l.filter fun x => x != sl
def nOf : Value → Nat
  | .int _ n => n.toNat
  | _ => 0
/-- What a round keeps: two boxes. -/
def KeepTwo (A B : Nat) (s t : TypeId) (W W' : World) : Prop := (∀ v, Boxed W A s v → Boxed W' A s v) ∧ (∀ v, Boxed W B t v → Boxed W' B t v)
theorem KeepTwo.refl (A B : Nat) (s t : TypeId) (W : World) : KeepTwo A B s t W W := ⟨fun _ h => h, fun _ h => h⟩
theorem KeepTwo.trans {A B : Nat} {s t : TypeId} {X Y Z : World} (h : KeepTwo A B s t X Y) (k : KeepTwo A B s t Y Z) : KeepTwo A B s t X Z := ⟨fun v x => k.1 v (h.1 v x), fun v x => k.2 v (h.2 v x)⟩
theorem box_put {W : World} {B l : Nat} {t : TypeId} {v : Value} {o o' : Obj} (h : Boxed W B t v) (hl : W.heap[l]? = some o) (ho : o.isCells = false) : Boxed (W.putObj l o') B t v :=
  h.kept (grownBy_putObj' W l o') (fun e => by
    cases e
    rw [show W.heap[B]? = _ from h] at hl
    cases hl
    cases ho)
theorem box_own {W W' : World} {row : Option Nat} {B C : Nat} {t : TypeId} {v : Value} (h : Boxed W B t v) (hg : W.grownBy W' row) (hr : ∀ r, row = some r → C ≤ r ∧ ∃ o : Obj, W.heap[r]? = some o ∧ o.isCells = false) : Boxed W' B t v :=
  h.kept hg (fun e => by
    obtain ⟨_, o, ho, hc⟩ := hr B e.symm
    rw [show W.heap[B]? = _ from h] at ho
    cases ho
    cases hc)
theorem own_ge {W : World} {base : Nat} {e : TypeId} {size n : Nat} {v : Value} {xs : List Value} (h : W.ownsRow base e size v n xs) {b : Nat} (hb : v.ownBlock = some b) : base ≤ b := by
  rcases h.2 with ⟨rfl, _⟩ | ⟨g, cap, cur, rfl, hg, _⟩
  · cases hb
  · cases hb
    exact hg
theorem own_less {W : World} {base base' : Nat} {e : TypeId} {size n : Nat} {v : Value} {xs : List Value} (h : W.ownsRow base e size v n xs) (hb : base' ≤ base) : W.ownsRow base' e size v n xs := by
  rcases h with ⟨h1, h2 | ⟨g, cap, cur, h3, hg, h4⟩⟩
  · exact ⟨h1, .inl h2⟩
  · exact ⟨h1, .inr ⟨g, cap, cur, h3, Nat.le_trans hb hg, h4⟩⟩
theorem box_grown {W w1 : World} {b base : Nat} {t e : TypeId} {size n : Nat} {u v : Value} {xs : List Value} {tmp : Obj} (h : Boxed W b t u) (hrow : W.ownsRow base e size v n xs) (hb : b < base) (hg : (W.alloc tmp).grownBy w1 v.ownBlock) : Boxed w1 b t u :=
  (h.alloc tmp).kept hg (fun x => by have := own_ge hrow x.symm; omega)
theorem box_set {W : World} {b c : Nat} {t : TypeId} {u v : Value} (h : Boxed W b t u) (hne : b ≠ c) : Boxed (W.setCell ⟨c, 0, none⟩ v) b t u := h.kept (grownBy_setCell' W c v) (by simp [hne])
theorem othP_hit (sl : Int) (pre : List Int) {x : Int} (h : x ≠ sl) : othP sl (pre ++ [x]) = othP sl pre ++ [x] := by simp [othP, List.filter_append, h]
theorem othP_miss (sl : Int) (pre : List Int) : othP sl (pre ++ [sl]) = othP sl pre := by simp [othP, List.filter_append]
theorem KeepTwo.put {A B : Nat} {s t : TypeId} {w : World} (W : World) (l : Nat) (o o' : Obj) (_ : w.heap.size ≤ l) (h : W.heap[l]? = some o) (ho : o.isCells = false) (_ : o.isWalk = false) : KeepTwo A B s t W (W.putObj l o') :=
  ⟨fun v x => box_put x h ho, fun v x => box_put x h ho⟩
theorem grown_below {W W' : World} (h : Below W.heap.size W W') : W.grownBy W' none := ⟨h.os, h.tape, h.output, h.size, fun k hk _ => h.block k hk⟩
theorem has_c {w kd sl : Int} (hw : isW w = true) (hk : kd = 0 ∨ kd = 1) (s0 : 0 ≤ sl) (s1 : sl ≤ 11) (W : World) : Calls Tryz.prog 223 #[.int .u64 w, .int .i64 kd, .int .i64 sl] W fun e W' => e = .returned (.bool (bitI w (12 * kd + sl))) ∧ Below W.heap.size W W' :=
  calls_plain sumsF4_ok 60 _ _ _ rfl rfl (mh_is (isW_iff.1 hw).1 (isW_iff.1 hw).2 s0 s1 hk) W
set_option maxRecDepth 100000 in
set_option maxHeartbeats 2000000 in
theorem all1_in (l A B : Nat) (w kd : Int) (hw : isW w = true) (hk : kd = 0 ∨ kd = 1) (J Jx : List Int → World → Prop) (W : World) (hJ : AbidesFrom W.heap.size J)
    (hY : ∀ pre x W, J pre W → pre.length < 12 → YieldAt Fence.wide 2 Tryz.prog l #[.int .i64 x] W fun e W' =>
      (e = .returned (.bool true) ∧ J (pre ++ [x]) W' ∧ KeepTwo A B 22 3 W W') ∨ (e = .returned (.bool false) ∧ Jx (pre ++ [x]) W'))
    (hA : Boxed W A 22 (.int .u64 w)) (hB : Boxed W B 3 (.int .i64 kd)) (h0 : J [] W) :
    CallsIn Fence.wide 3 Tryz.prog 277 #[.func (.yield l) #[] #[], .pointer (some ⟨A, 0, none⟩), .pointer (some ⟨B, 0, none⟩)] W fun e W' => (∃ v, e = .returned v) ∧
      ((∃ ys, ys = marksTo w kd 12 ∧ J ys W') ∨ (∃ pre, True ∧ Jx pre W')) := by
  refine callsIn_of_wp Tryz.func277 rfl trivial ?_ rfl
  simp only [Tryz.ntmps277, List.size_toArray, List.length_cons, List.length_nil, Nat.reduceAdd, Nat.reduceSub, Array.replicate_succ, Array.replicate_zero, List.push_toArray, List.append_toArray, List.nil_append, List.cons_append]
  have hA0 := hA
  gi_wp2
  gi_loopw [5] (fun p wr => ∃ i : Nat, p = .int .i64 i ∧ i ≤ 12 ∧ J (marksTo w kd i) wr ∧ Boxed wr A 22 (.int .u64 w) ∧ Boxed wr B 3 (.int .i64 kd))
    (fun p wr => 12 - nOf p)
  case atStart => exact ⟨0, rfl, by omega, h0, hA, hB⟩
  case round =>
    obtain ⟨i, rfl, hi, hJi, hAi, hBi⟩ := hrel
    by_cases h12 : i = 12
    · subst h12
      gi_wp2
      go_end0
      exact ⟨⟨_, rfl⟩, .inl ⟨_, rfl, hJi⟩⟩
    · have hlt : (i : Int) < 12 := by omega
      have hcA := hAi.cell
      have hcB := hBi.cell
      have hlen : (marksTo w kd i).length < 12 := Nat.lt_of_le_of_lt (marksTo_len w kd i) (by omega)
      have hs := marksTo_succ w kd i
      rcases bool_two (bitI w (12 * kd + (i : Int))) with hb | hb
      · rw [hb, if_pos rfl] at hs
        gi_wp2_with (refine ⟨trivial, ?_⟩; gi_at_call 223; refine (callsIn_wide.2 (has_c hw hk (by omega) (by omega) _)).mono ?_; rintro e W1 ⟨rfl, hb1⟩; rw [hb]; have hJ1 := hJ _ _ _ none hJi (grown_below hb1) (fun _ h => by cases h); obtain ⟨fn, tmps, assign, body, hy, hR⟩ := hY (marksTo w kd i) i W1 hJ1 hlen; have hA1 := hAi.kept (grown_below hb1) (by simp); have hB1 := hBi.kept (grown_below hb1) (by simp))
        · refine hR.mono ?_
          rintro e W3 (⟨rfl, hJ3, hk3⟩ | ⟨rfl, hJx3⟩)
          · have hA3 := hk3.1 _ hA1
            have hB3 := hk3.2 _ hB1
            gi_wp2
            go_roundw
            case rel => exact ⟨i + 1, by simp, by omega, by rw [hs]; exact hJ3, hA3, hB3⟩
            case measure => simp [nOf]; try omega
          · gi_wp2
            refine bodyPost_ret (results_none rfl _ _ _) rfl ?_
            exact ⟨⟨_, rfl⟩, .inr ⟨_, trivial, hJx3⟩⟩
      · rw [hb, if_neg (by decide), List.append_nil] at hs
        gi_wp2_with (refine ⟨trivial, ?_⟩; gi_at_call 223; refine (callsIn_wide.2 (has_c hw hk (by omega) (by omega) _)).mono ?_; rintro e W1 ⟨rfl, hb1⟩; rw [hb]; have hJ1 := hJ _ _ _ none hJi (grown_below hb1) (fun _ h => by cases h); have hA1 := hAi.kept (grown_below hb1) (by simp); have hB1 := hBi.kept (grown_below hb1) (by simp))
        refine ⟨fun _ h => (by cases h), ?_⟩
        gi_wp2
        go_roundw
        case rel => exact ⟨i + 1, by simp, by omega, by rw [hs]; exact hJ1, hA1, hB1⟩
        case measure => simp [nOf]; try omega
set_option maxHeartbeats 1000000 in
theorem all_in (w kd : Int) (W : World) :
    CallsIn Fence.wide 3 Tryz.prog 253 #[.int .u64 w, .int .i64 kd] W fun e W' => e = .returned (.func (.func 277) #[] #[.pointer (some ⟨W.heap.size, 0, none⟩), .pointer (some ⟨W.heap.size + 1, 0, none⟩)]) ∧ W' = (W.alloc (.cells #[.int .u64 w] 22)).alloc (.cells #[.int .i64 kd] 3) := by
  refine callsIn_of_wp Tryz.func253 rfl trivial ?_ rfl
  simp only [Tryz.ntmps253, List.size_toArray, List.length_cons, List.length_nil, Nat.reduceAdd, Nat.reduceSub, Array.replicate_succ, Array.replicate_zero, List.push_toArray, List.append_toArray, List.nil_append, List.cons_append]
  gi_wp2
  go_ret
  exact ⟨by simp, rfl⟩
theorem all_stops (A B : Nat) (w kd : Int) (hw : isW w = true) (hk : kd = 0 ∨ kd = 1) (W0 : World) (hA : Boxed W0 A 22 (.int .u64 w)) (hB : Boxed W0 B 3 (.int .i64 kd)) :
    SeqStopsK Fence.wide 3 Tryz.prog 277 #[.pointer (some ⟨A, 0, none⟩), .pointer (some ⟨B, 0, none⟩)] (fun x : Int => #[Value.int .i64 x]) (KeepTwo A B 22 3) (fun ys => ys = marksTo w kd 12) (fun _ => True) 12 W0 := fun l J Jx W hW hJ _ hY h0 =>
  all1_in l A B w kd hw hk J Jx W hJ hY ((hW.block A hA.lt).trans hA) ((hW.block B hB.lt).trans hB) h0
theorem infoInt : (Tryz.prog.info? 3).map (fun i => (i.zero, i.size, i.bytes)) = some (some (.int .i64 0), 1, 8) := by kernel_rfl
set_option maxRecDepth 100000 in
set_option maxHeartbeats 2000000 in
theorem oth_in (w kd sl : Int) (hw : isW w = true) (hk : kd = 0 ∨ kd = 1) (W : World) :
    CallsIn Fence.wide 4 Tryz.prog 225 #[.int .u64 w, .int .i64 kd, .int .i64 sl] W fun e W' => ∃ v, e = .returned v ∧ W'.ownsRow W.heap.size 3 1 v (othL w kd sl).length ((othL w kd sl).map (Value.int .i64)) ∧ (v = .slice none 0 0 ↔ othL w kd sl = []) ∧ Below W.heap.size W W' := by
  obtain ⟨i0, hi, hz0, hz1, hz2⟩ := info_parts infoInt
  refine callsIn_of_wp_marks Tryz.func225 rfl trivial ?_ rfl
  simp only [Tryz.ntmps225, List.size_toArray, List.length_cons, List.length_nil, Nat.reduceAdd, Nat.reduceSub, Array.replicate_succ, Array.replicate_zero, List.push_toArray, List.append_toArray, List.nil_append, List.cons_append]
  gi_wp2_with (refine ⟨trivial, ?_⟩; gi_at_call 253; refine (all_in w kd _).mono ?_; rintro e w' ⟨rfl, rfl⟩)
  obtain ⟨X, hX⟩ : ∃ X, ((((W.alloc (.cells #[.int .i64 sl] 3)).alloc (.cells #[.slice none 0 0] 74)).alloc (.cells #[.int .u64 w] 22)).alloc (.cells #[.int .i64 kd] 3)) = X := ⟨_, rfl⟩
  have bS : Boxed X W.heap.size 3 (.int .i64 sl) := by rw [← hX]; exact (((Boxed.new W _ _).alloc _).alloc _).alloc _
  have bO : Boxed X (W.heap.size + 1) 74 (.slice none 0 0) := by
    rw [← hX]
    have := Boxed.new (W.alloc (.cells #[.int .i64 sl] 3)) 74 (.slice none 0 0)
    rw [World.size_alloc] at this
    exact (this.alloc _).alloc _
  have bA : Boxed X (W.heap.size + 1 + 1) 22 (.int .u64 w) := by
    rw [← hX]
    have := Boxed.new ((W.alloc (.cells #[.int .i64 sl] 3)).alloc (.cells #[.slice none 0 0] 74)) 22 (.int .u64 w)
    simp only [World.size_alloc] at this
    exact this.alloc _
  have bB : Boxed X (W.heap.size + 1 + 1 + 1) 3 (.int .i64 kd) := by
    rw [← hX]
    have := Boxed.new (((W.alloc (.cells #[.int .i64 sl] 3)).alloc (.cells #[.slice none 0 0] 74)).alloc (.cells #[.int .u64 w] 22)) 3 (.int .i64 kd)
    simp only [World.size_alloc] at this
    exact this
  have hXs : X.heap.size = W.heap.size + 4 := by rw [← hX]; simp only [World.size_alloc]
  have hBX : Below W.heap.size W X := by
    rw [← hX]
    exact ((((Below.refl _ W).alloc (Nat.le_refl _) _).alloc (by simp) _).alloc (by simp; omega) _).alloc (by simp; omega) _
  rw [hX]
  clear hX
  refine wpIn_rangeFunc_ownG rfl (by omega) (gf := 277) (lb := #[.pointer (some ⟨W.heap.size + 1 + 1, 0, none⟩), .pointer (some ⟨W.heap.size + 1 + 1 + 1, 0, none⟩)]) rfl trivial (enters_of Tryz.func277 (by kernel_rfl) rfl)
    (all_stops (W.heap.size + 1 + 1) (W.heap.size + 1 + 1 + 1) w kd hw hk X bA bB) KeepTwo.trans KeepTwo.put (Below.refl _ _) (fun _ => rfl)
    (fun pre Y => (Boxed Y W.heap.size 3 (.int .i64 sl) ∧ Boxed Y (W.heap.size + 1 + 1) 22 (.int .u64 w) ∧ Boxed Y (W.heap.size + 1 + 1 + 1) 3 (.int .i64 kd)) ∧ (∃ v, Boxed Y (W.heap.size + 1) 74 v ∧ Y.ownsRow X.heap.size 3 1 v (othP sl pre).length ((othP sl pre).map (Value.int .i64)) ∧ (v = .slice none 0 0 ↔ othP sl pre = [])) ∧ Below W.heap.size W Y)
    (fun _ _ _ => False)
    (OwnFrom.and (fun s Y Z row hs hg hr => ⟨box_own hs.1 hg hr, box_own hs.2.1 hg hr, box_own hs.2.2 hg hr⟩) (OwnFrom.and (Own.from (holdsRow_own X.heap.size (W.heap.size + 1) 74 3 1 (fun pre => (othP sl pre).length) (fun pre => (othP sl pre).map (Value.int .i64)) (fun pre v => v = .slice none 0 0 ↔ othP sl pre = [])) _) (ownFrom_below (Nat.le_refl _) (by omega))))
    (fun _ _ _ _ _ hs _ _ => hs)
    ⟨⟨bS, bA, bB⟩, ⟨_, bO, World.ownsRow_nil _ _ _ _, by simp [othP]⟩, hBX⟩
    (fun x => { tmps := #[.int .u64 w, .int .i64 kd, .int .i64 sl, undef, undef, .pointer (some ⟨W.heap.size, 0, none⟩), .slice none 0 0, .pointer (some ⟨W.heap.size + 1, 0, none⟩), .int .i64 x, .int .u64 w, .int .i64 kd, .func (.func 277) #[] #[.pointer (some ⟨W.heap.size + 1 + 1, 0, none⟩), .pointer (some ⟨W.heap.size + 1 + 1 + 1, 0, none⟩)], .int .i64 x, undef, undef, undef, undef, undef, undef, undef, undef], defers := [] }) ?assign ?body ?done ?stop
  case assign =>
    intro l x Y K hK
    gi_wp2
    exact hK
  case body =>
    rintro l pre x Y ⟨⟨yS, yA, yB⟩, ⟨v, hv, hrow, hnil⟩, hB⟩ hlt
    have hc := hv.cell
    have hcS := yS.cell
    have hpl : (othP sl pre).length ≤ pre.length := List.length_filter_le _ _
    have hXY : X.heap.size ≤ Y.heap.size := by have := yB.lt; omega
    gi_wp2_with (gi_at_builtin; refine wpListIn_append_own _ rfl _ _ 74 rfl X.heap.size 3 i0 (.int .i64 0) 1 8 Tryz.underlying74 hi hz0 hz1 hz2 rfl (by decide) _ _ _ rfl (hrow.alloc _) ⟨Y.heap.size, 0, none⟩ 1 1 [.int .i64 x] rfl rfl (cell_one_new _ _ _) (by simp [Value.oneCell']) (by simp only [maxLen]; omega) (by omega) (by simp; omega) ?_; intro v' w1 hown' hgrow _; obtain ⟨g', cap', rfl⟩ := ownsRow_succ hown'; obtain ⟨hv1, hv2, hr2, hk2, hb2⟩ := hv.appended (by decide) (own_less hrow (Nat.le_trans (by omega) (Nat.le_refl _))) hB.size (by omega) (own_less hown' (by omega)) hgrow; have hc1 := hv1.cell; have hf1 := hv1.frozen)
    · have hx : (x != sl) = true := by assumption
      have hx' : x ≠ sl := by simpa using hx
      have gS := box_set (v := .slice (some ⟨g', 0, none⟩) ((othP sl pre).length + 1) cap') (box_grown yS hrow (by omega) hgrow) (show W.heap.size ≠ W.heap.size + 1 by omega)
      have gA := box_set (v := .slice (some ⟨g', 0, none⟩) ((othP sl pre).length + 1) cap') (box_grown yA hrow (by omega) hgrow) (show W.heap.size + 1 + 1 ≠ W.heap.size + 1 by omega)
      have gB := box_set (v := .slice (some ⟨g', 0, none⟩) ((othP sl pre).length + 1) cap') (box_grown yB hrow (by omega) hgrow) (show W.heap.size + 1 + 1 + 1 ≠ W.heap.size + 1 by omega)
      have hr3 := hown'.kept (grownBy_setCell' w1 (W.heap.size + 1) (.slice (some ⟨g', 0, none⟩) ((othP sl pre).length + 1) cap')) (.inr fun e => by have := own_ge hown' e; omega)
      refine ⟨hk2.from _, ⟨fun u h => box_set (box_grown h hrow (by omega) hgrow) (by omega), fun u h => box_set (box_grown h hrow (by omega) hgrow) (by omega)⟩, ⟨gS, gA, gB⟩, ⟨_, hv2, ?_, ?_⟩, hB.trans hb2⟩
      · rw [othP_hit sl pre hx']
        simpa using hr3
      · rw [othP_hit sl pre hx']
        simp
    · have hx : (x != sl) = false := by assumption
      obtain rfl : x = sl := by simpa using hx
      exact ⟨KeepsFrom.refl _ _, KeepTwo.refl _ _ _ _ _, ⟨yS, yA, yB⟩, ⟨v, hv, by rw [othP_miss]; exact hrow, by rw [othP_miss]; exact hnil⟩, hB⟩
  case done =>
    rintro D ys Y hD rfl ⟨⟨yS, yA, yB⟩, ⟨v, hv, hrow, hnil⟩, hB⟩ hK
    have hc := hv.cell
    gi_wp2
    refine ⟨by simp, .inl ⟨_, _, rfl, run_takeDeferred hK, ?_⟩⟩
    exact ⟨_, results_tmp rfl _ _ _, v, rfl, own_less (ownsRow_putObj hrow _ hK rfl) (by omega), hnil, hB.trans (belowK_b (w := W) (Nat.le_refl _) Y D _ _ (by omega) hK rfl rfl)⟩
  case stop =>
    rintro D c pre Y _ _ h _
    exact h.elim
/-! As a sum. -/
section
variable {P : Program} {K : Nat → Prop} {ρ : Val} {H : Heap} {w w' : World}
theorem reps_below (hr : Reps P K ρ H w) (hb : Below w.heap.size w w') : Reps P K ρ H w' :=
  ⟨fun i b hi => by
    obtain ⟨o, h1, h2⟩ := hr.blk i b hi
    exact ⟨o, by rw [hb.block _ (hr.lt hi)]; exact h1, h2⟩, hr.inj, hr.known, hr.low⟩
theorem fr_below (hr : Reps P K ρ H w) (hb : Below w.heap.size w w') : Fr K ρ H w ρ H w' [] :=
  ⟨Same.refl _ _, Nat.le_refl _, hb.os, hb.tape, hb.output, hb.size, fun b hlt _ => hb.block b hlt, fun i hi ⟨b, hg2, _⟩ => absurd (hr.known i b hg2).1 hi, fun i _ _ => rfl, fun i d _ hn => ⟨d, hn, rfl⟩, fun i d hg2 _ => (hr.known i d hg2).1⟩
/-- A block that was made meanwhile is known, too. -/
theorem reps_new (hr : Reps P K ρ H w) (hb : Below w.heap.size w w') {i k g : Nat} {b : Blk} {ex : List Value} (hi : H.n ≤ i) (hg : w.heap.size ≤ g) (ho : w'.heap[g]? = some (obj ρ b ex)) (hs : scL K b.c.list) (hex : fits P k b ex) (hw : isWin b = false) :
    Reps P (also K i) (ρ.put i g k) ⟨(H.set i (some b)).get, i + 1⟩ w' ∧ Fr K ρ H w (ρ.put i g k) ⟨(H.set i (some b)).get, i + 1⟩ w' [] := by
  have hK : ¬ K i := fun h => by have := hr.low i h; omega
  have hsm : Same K ρ (ρ.put i g k) := Val.put_same hK
  have aux : ∀ {j : Nat} {d : Blk}, (H.set i (some b)).get j = some d → (j = i ∧ d = b) ∨ (j ≠ i ∧ H.get j = some d) := by
    intro j d h
    simp only [Heap.get_set] at h
    by_cases e : i = j
    · subst e; simp at h; exact .inl ⟨rfl, h.symm⟩
    · rw [if_neg e] at h; exact .inr ⟨Ne.symm e, h⟩
  have old : ∀ {j : Nat} {d : Blk}, H.get j = some d → (ρ.put i g k).blk j < w.heap.size := fun {j d} h => by
    rw [hsm.blk j (hr.known j d h).1]; exact hr.lt h
  have new : (ρ.put i g k).blk i = g := by simp [Val.put]
  refine ⟨⟨fun j d hd => ?_, fun j j' d d' hd hd' e => ?_, fun j d hd => ?_, fun j hj => ?_⟩, ⟨hsm, by show H.n ≤ i + 1; omega, hb.os, hb.tape, hb.output, hb.size, fun c hc _ => hb.block c hc, fun j hj ⟨d, hd, hwd⟩ => ?_, fun j hj _ => ?_, fun j d hj hd => ?_, fun j d hd hwd => ?_⟩⟩
  · rcases aux hd with ⟨rfl, rfl⟩ | ⟨h1, h2⟩
    · exact ⟨obj ρ d ex, by rw [new]; exact ho, (lies_row hw).2 ⟨by simp [Val.put], ex, (obj_same hsm hs).symm, by simpa [Val.put] using hex⟩⟩
    · obtain ⟨o, g1, g2⟩ := hr.blk j d h2
      obtain ⟨k1, k2⟩ := hr.known j d h2
      exact ⟨o, by rw [hb.block _ (old h2), hsm.blk j k1]; exact g1, lies_same hsm k1 k2 g2⟩
  · rcases aux hd with ⟨rfl, rfl⟩ | ⟨h1, h2⟩ <;> rcases aux hd' with ⟨rfl, rfl⟩ | ⟨h3, h4⟩
    · exact .inl rfl
    · have := old h4; rw [← e, new] at this; omega
    · have := old h2; rw [e, new] at this; omega
    · rw [hsm.blk j (hr.known j d h2).1, hsm.blk j' (hr.known j' d' h4).1] at e
      exact hr.inj j j' d d' h2 h4 e
  · rcases aux hd with ⟨rfl, rfl⟩ | ⟨h1, h2⟩
    · exact ⟨.inr rfl, scL_mono (fun _ h => .inl h) _ hs⟩
    · obtain ⟨k1, k2⟩ := hr.known j d h2
      exact ⟨.inl k1, scL_mono (fun _ h => .inl h) _ k2⟩
  · show j < i + 1
    rcases hj with h | rfl
    · have := hr.low j h; omega
    · omega
  · rcases aux hd with ⟨rfl, rfl⟩ | ⟨h1, h2⟩
    · rw [new]; exact .inl hg
    · exact absurd (hr.known j d h2).1 hj
  · simp only [Heap.get_set]
    rw [if_neg (by omega)]
  · rcases aux hd with ⟨rfl, rfl⟩ | ⟨h1, h2⟩
    · exact absurd hj hK
    · exact ⟨d, h2, rfl⟩
  · rcases aux hd with ⟨rfl, rfl⟩ | ⟨h1, h2⟩
    · rw [hw] at hwd; cases hwd
    · exact (hr.known j d h2).1
end
theorem cells_int : cellsOf Tryz.prog 3 = 1 := by kernel_rfl
def othB (w kd sl : Int) : Blk := ⟨3, .ints .i64 (othL w kd sl)⟩
def othS : Sum := fun args H => match args with
  | [.int .u64 w, .int .i64 kd, .int .i64 sl] => .br (isW w && decide (kd = 0 ∨ kd = 1)) (.br (othL w kd sl).isEmpty (.leaf (.slice none 0 0, H, [])) (.leaf (.slice (some ⟨H.n, 0, none⟩) (othL w kd sl).length (othL w kd sl).length, ⟨(H.set H.n (some (othB w kd sl))).tr, H.n + 1⟩, []))) .bad
  | _ => .bad
theorem ints_plain (l : List Int) : plainL (l.map (Value.int .i64)) = true := by
  induction l with
  | nil => rfl
  | cons x l ih => simp [plainL, plain, ih]
theorem othS_sem (H : TH) (b : Blk) : (⟨(H.set H.n (some b)).tr, H.n + 1⟩ : TH).sem = ⟨(H.sem.set H.n (some b)).get, H.n + 1⟩ := by
  unfold TH.sem
  congr 1
  funext j
  exact TH.get_set H H.n j (some b)
theorem othS_ok : SoundSum Tryz.prog 225 othS := by
  refine ⟨fun args H v H' L hg K ρ w hr hsc => ?_, fun args H v H' L hg => ?_⟩
  · unfold othS at hg
    split at hg
    case h_2 => cases hg
    rename_i W kd sl
    simp only [Tree.get_br] at hg
    split at hg
    case isFalse => cases hg
    rename_i hgd
    simp only [Bool.and_eq_true, decide_eq_true_eq] at hgd
    have hc := callsIn_wide.1 (oth_in W kd sl hgd.1 hgd.2 w)
    rw [concL_plain _ _ rfl]
    split at hg
    · rename_i he
      simp only [Tree.get_leaf, Option.some.injEq, Prod.mk.injEq] at hg
      obtain ⟨rfl, rfl, rfl⟩ := hg
      refine hc.mono ?_
      rintro e w' ⟨v, rfl, hrow, hnil, hb⟩
      obtain rfl := hnil.2 (List.isEmpty_iff.1 he)
      exact ⟨K, ρ, rfl, trivial, reps_below hr hb, fr_below hr hb, fun _ x => x, fun _ x => .inl x⟩
    · rename_i he
      simp only [Tree.get_leaf, Option.some.injEq, Prod.mk.injEq] at hg
      obtain ⟨rfl, rfl, rfl⟩ := hg
      refine hc.mono ?_
      rintro e w' ⟨v, rfl, hrow, hnil, hb⟩
      rcases hrow.2 with ⟨hv, _⟩ | ⟨g, cap, cur, rfl, hbase, hgo, hle, _, hcs, htk⟩
      · exact absurd (List.isEmpty_iff.2 (hnil.1 hv)) he
      · rw [Nat.mul_one] at hcs htk
        have hcur : cur = ⟨concL ρ ((othL W kd sl).map (Value.int .i64)) ++ cur.toList.drop (othL W kd sl).length⟩ := by
          rw [concL_plain _ _ (ints_plain _), ← htk, List.take_append_drop]
        obtain ⟨r1, f1⟩ := reps_new (i := H.n) (k := cap - (othL W kd sl).length) (b := othB W kd sl) (ex := cur.toList.drop (othL W kd sl).length) hr hb (Nat.le_refl _) hbase (by rw [hgo]; unfold obj othB; simp only [Cells.list]; rw [← hcur]) (scL_plain _ _ (ints_plain _)) (by
          unfold fits othB
          simp only [List.length_drop, Array.length_toList, hcs, cells_int, Nat.mul_one]) rfl
        rw [othS_sem]
        refine ⟨also K H.n, ρ.put H.n g (cap - (othL W kd sl).length), ?_, .inr rfl, r1, f1, fun _ x => .inl x, fun i x => x.imp id (fun e => by rw [e]; exact Nat.le_refl _)⟩
        simp only [conc, caddr_none, ccap_none, Val.put, if_true, Nat.add_zero]
        rw [show (othL W kd sl).length + (cap - (othL W kd sl).length) = cap by omega]
  · unfold othS at hg
    split at hg
    case h_2 => cases hg
    simp only [Tree.get_br] at hg
    split at hg
    case isFalse => cases hg
    split at hg
    · simp only [Tree.get_leaf, Option.some.injEq, Prod.mk.injEq] at hg
      obtain ⟨rfl, rfl, rfl⟩ := hg
      exact ⟨Nat.le_refl _, fun _ _ _ => rfl⟩
    · simp only [Tree.get_leaf, Option.some.injEq, Prod.mk.injEq] at hg
      obtain ⟨rfl, rfl, rfl⟩ := hg
      refine ⟨Nat.le_succ _, fun i hi _ => ?_⟩
      show (TH.set _ _ _).get i = _
      rw [TH.get_set, if_neg (by omega)]
noncomputable def withOth (sums : Sums) : Sums := withCall sums 225 othS
theorem withOth_ok {sums : Sums} (h : SumsOk sums) : SumsOk (withOth sums) := withCall_ok h othS_ok (by kernel_rfl)
end Go.Proofs.YtifojacfedjedaaGreat.Bound
end

section
namespace Go.Proofs.YtifojacfedjedaaGreat.Bound
open Go.Proofs.YtifojacfedjedaaGreat.Ev Go.Proofs.YtifojacfedjedaaGreat.ChartMath
set_option linter.unusedVariables false
set_option linter.unusedSimpArgs false
def pt_mw (w sl j : Int) (n : Nat) : PT Value := .cs n (.b (decide (sl < 0)) .bad (.cs 1 (.b (decide (sl ≥ 12)) .bad (.b (decide (sl < 0)) .bad (.cs 1 (.leaf (.int .u64 (IntKind.u64.wrap (↑(BitVec.ofInt IntKind.u64.bits w ||| BitVec.ofInt IntKind.u64.bits (IntKind.u64.wrap (IntKind.u64.wrap ((1 : Int) * (2 : Int) ^ min sl.toNat IntKind.u64.bits) * (2 : Int) ^ min (IntKind.i64.wrap (j * (12 : Int))).toNat IntKind.u64.bits))).toNat : Int)))))))))
theorem ct_mw0 (w sl : Int) : cutP (pt_mw w sl 0 5) (valT (ev sumsF4 60 249 [.int .u64 w, .int .i64 0, .int .i64 sl] ⟨.nil, 0⟩)) = den (pt_mw w sl 0 5) := by kernel_rfl
theorem ct_mw1 (w sl : Int) : cutP (pt_mw w sl 1 4) (valT (ev sumsF4 60 249 [.int .u64 w, .int .i64 1, .int .i64 sl] ⟨.nil, 0⟩)) = den (pt_mw w sl 1 4) := by kernel_rfl
theorem mw_is {w sl kd : Int} (h0 : 0 ≤ w) (h1 : w < 18446744073709551616) (s0 : 0 ≤ sl) (s1 : sl ≤ 11) (hk : kd = 0 ∨ kd = 1) : outV (ev sumsF4 60 249 [.int .u64 w, .int .i64 kd, .int .i64 sl] ⟨.nil, 0⟩) = some (.int .u64 (putI w (12 * kd + sl) true)) := by
  have n0 : ¬ sl < 0 := by omega
  have n1 : ¬ sl ≥ 12 := by omega
  rcases hk with rfl | rfl
  · refine valT_out (cut_get (ct_mw0 w sl) ?_)
    simp only [pt_mw, den, Tree.get_br, Tree.get_leaf, decide_eq_false n0, decide_eq_false n1, Bool.false_eq_true, if_false]
    rw [bit_a s0 s1, show (((2 ^ sl.toNat : Nat) : Int)) = pw sl from rfl, orP h0 h1 (by omega), show 12 * (0 : Int) + sl = sl by omega]
  · refine valT_out (cut_get (ct_mw1 w sl) ?_)
    simp only [pt_mw, den, Tree.get_br, Tree.get_leaf, decide_eq_false n0, decide_eq_false n1, Bool.false_eq_true, if_false]
    rw [bit_b s0 s1, show (((2 ^ (12 + sl).toNat : Nat) : Int)) = pw (12 + sl) from rfl, orP h0 h1 (by omega), show 12 * (1 : Int) + sl = 12 + sl by omega]
def mwS : List Value → Option (Bool × Value)
  | [.int .u64 w, .int .i64 kd, .int .i64 sl] => some (isW w && decide (0 ≤ kd ∧ kd ≤ 1 ∧ 0 ≤ sl ∧ sl ≤ 11), .int .u64 (putI w (12 * kd + sl) true))
  | _ => none
theorem mwS_ok {sums : Sums} (hs : SumsOk sums) : SumsOk (withIf sums 249 mwS) := withIf_ok hs sumsF4_ok 60 (by kernel_rfl) fun al v h => by
  unfold mwS at h
  split at h
  · simp only [Option.some.injEq, Prod.mk.injEq, Bool.and_eq_true, decide_eq_true_eq, isW_iff] at h
    obtain ⟨⟨⟨h0, h1⟩, h2, h3, h4, h5⟩, rfl⟩ := h
    exact ⟨rfl, rfl, mw_is h0 h1 h4 h5 (by omega)⟩
  · cases h
def pt_sw (w sd sl : Int) : PT Value := .b (sideOk sd sl) (.leaf (.int .u64 (IntKind.u64.wrap (↑(BitVec.ofInt IntKind.u64.bits w ||| BitVec.ofInt IntKind.u64.bits (pw (12 * sd + sl))).toNat : Int)))) .bad
theorem ct_sw (w sd sl : Int) : cutP (pt_sw w sd sl) (valT (ev sumsF4 60 321 [.int .u64 w, .int .i64 sd, .int .i64 sl] ⟨.nil, 0⟩)) = den (pt_sw w sd sl) := by kernel_rfl
def swithS : List Value → Option (Bool × Value)
  | [.int .u64 w, .int .i64 sd, .int .i64 sl] => some (isW w && sideOk sd sl, .int .u64 (putI w (12 * sd + sl) true))
  | _ => none
theorem swithS_ok {sums : Sums} (hs : SumsOk sums) : SumsOk (withIf sums 321 swithS) := withIf_ok hs sumsF4_ok 60 (by kernel_rfl) fun al v h => by
  unfold swithS at h
  split at h
  · simp only [Option.some.injEq, Prod.mk.injEq, Bool.and_eq_true, isW_iff] at h
    obtain ⟨⟨⟨h0, h1⟩, h2⟩, rfl⟩ := h
    have h3 := h2
    simp only [sideOk, decide_eq_true_eq] at h3
    refine ⟨rfl, rfl, valT_out (cut_get (ct_sw _ _ _) ?_)⟩
    simp only [pt_sw, den, Tree.get_br, Tree.get_leaf, h2, if_true]
    rw [orP h0 h1 (by omega)]
  · cases h
/-- What a Read's, and a Write's, steps stand on. -/
noncomputable def sumsF7 : Sums := withOth (withIf (withIf (withIf sumsF6 223 mhS) 249 mwS) 321 swithS)
theorem sumsF7_ok : SumsOk sumsF7 := withOth_ok (swithS_ok (mwS_ok (mhS_ok sumsF6_ok)))
end Go.Proofs.YtifojacfedjedaaGreat.Bound
end
