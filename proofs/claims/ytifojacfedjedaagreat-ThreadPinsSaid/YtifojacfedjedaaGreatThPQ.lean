/- A machine's first steps, over words that are known. No condition. -/
import Derived.Test.YtifojacfedjedaaGreatThTQ
import Derived.Test.YtifojacfedjedaaGreatLatQ
namespace Go.Proofs.YtifojacfedjedaaGreat.Bound
open Go.Proofs.YtifojacfedjedaaGreat.Ev Go.Proofs.YtifojacfedjedaaGreat.ChartMath
set_option linter.unusedVariables false
set_option linter.unusedSimpArgs false
theorem brI {q : Prop} [Decidable q] {α : Type} {t : Tree α} {r : Option α} (h : q) (e : t.get = r) : (Tree.br (decide q) t .bad).get = r := by rw [Tree.get_br, if_pos (decide_eq_true h)]; exact e
theorem wr_s {a : Int} (h0 : -1 ≤ a) (h1 : a < 1000) : IntKind.i64.wrap (a + 1) = a + 1 := by rw [IntKind.wrap_i64]; omega
section
variable {T S K G Q : Int} {l c : Nat} {s : MS}
theorem o_look {sl : Int} (h : Good T S K G Q l s.ws) (q0 : stI (lat T S K s.ws 4 sl) = 0) (q1 : gnI (lat T S K s.ws 4 sl) ≤ G) : (mcT 0 0 ([.i sl, .i 0, .i 0, .i 0, .i sl] ++ mA T S K G Q l c s)).get = some (1, [.i sl, .i (lat T S K s.ws 4 sl), .i 0, .i 0, .i 0, .i sl] ++ mA T S K G Q l c (mload T S K s 4 sl)) := by
  have hc := h.cfg
  refine brI ⟨rfl, rfl, rfl, rfl⟩ ?_
  simp only [pt_op0, den, Tree.get_br, Tree.get_leaf, h.rowB, if_true, mat_lat, h.isW, bne_iff_ne]
  rw [if_neg (fun x => x q0), if_neg (by simpa using q1)]
theorem o_take {sl w : Int} (h : Good T S K G Q l s.ws) (hw : isW w = true) (ho : mok T S K s 4 sl w = true) : (mcT 0 1 ([.i sl, .i w, .i 0, .i 0, .i 0, .i sl] ++ mA T S K G Q l c s)).get = some (2, [.i sl, .i w, .i 0, .i 0, .i 0] ++ mA T S K G Q l c (mswap T S K s 4 sl w (moveI w 1 false))) := by
  refine brI ⟨rfl, rfl, rfl, rfl⟩ ?_
  simp only [pt_op1, den, Tree.get_br, Tree.get_leaf, h.rowB, if_true, hw, ho, Bool.not_true, Bool.false_eq_true, if_false]
theorem o_tally {sl w : Int} (h : Good T S K G Q l s.ws) (q : ¬ lat T S K s.ws 1 0 % 16 - 1 ≥ 0) : (mcT 0 2 ([.i sl, .i w, .i 0, .i 0, .i 0] ++ mA T S K G Q l c s)).get = some (7, [.i sl, .i w, .i (lat T S K s.ws 1 0 / 16), .i 0, .i 0, .i 0] ++ mA T S K G Q l c (mload T S K s 1 0)) := by
  refine brI ⟨rfl, rfl, rfl⟩ ?_
  simp only [pt_op2, den, Tree.get_br, Tree.get_leaf, h.rowB, if_true, mat_lat, h.isW]
  exact (if_neg (fun x => q (of_decide_eq_true x))).trans rfl
theorem o_note {sl w q : Int} (h : Good T S K G Q l s.ws) : (mcT 0 7 ([.i sl, .i w, .i q, .i 0, .i 0, .i 0] ++ mA T S K G Q l c s)).get = some (8, [.i sl, .i w, .i q, .i 0, .i 0, .i 0] ++ mA T S K G Q l c (mstore T S K s 5 sl q)) := by
  refine brI ⟨rfl, rfl, rfl⟩ ?_
  simp only [pt_op7, den, Tree.get_br, Tree.get_leaf, h.rowB, if_true]
theorem o_start {sl w q : Int} (h : Good T S K G Q l s.ws) (hw : isW w = true) (hr : 0 ≤ sl ∧ sl ≤ 11 ∧ 0 ≤ gnI w ∧ gnI w ≤ 1073741823) : (mcT 0 8 ([.i sl, .i w, .i q, .i 0, .i 0, .i 0] ++ mA T S K G Q l c s)).get = some (9, [.i 0, .i (mkI sl (gnI w)), .i q] ++ mA T S K G Q l c (mstore T S K s 4 sl (moveI w 2 false))) := by
  refine brI ⟨rfl, rfl, rfl⟩ ?_
  simp only [pt_op8, den, Tree.get_br, Tree.get_leaf, h.rowB, if_true, hw, decide_eq_true hr]
/-- One that enters a slot that is free is told that its ticket is stale. -/
def enA (sl es eh : Int) (ec : Nat) (tk : Bool) (ew : Int) : List Atom := [.i sl, .i es, .i eh, .n 1, .n ec, .b tk, .b false, .i 0, .i ew, .ws [2]]
variable {ky sl es eh ew : Int} {ec : Nat}
theorem rd_stale (h : Good T S K G Q l s.ws) (he : isW eh = true) (hk : okT eh S = true) (h0 : stI (lat T S K s.ws 4 sl) = 0) : (mcT 1 0 (([.i ky, .i sl] ++ enA sl es eh ec false ew) ++ mA T S K G Q l c s)).get = some (9, [.i 2] ++ mA T S K G Q l c (mload T S K s 4 sl)) := by
  refine brI ⟨rfl, rfl, rfl, rfl, rfl⟩ ?_
  simp only [pt_rd0, den, Tree.get_br, Tree.get_leaf, h.rowB, if_true, he, hk, mat_lat, h.isW, h0, Bool.not_true, Bool.not_false, Bool.false_eq_true, if_false, beq_self_eq_true]
  split <;> rfl
theorem wr_stale (h : Good T S K G Q l s.ws) (he : isW eh = true) (hk : okT eh S = true) (h0 : stI (lat T S K s.ws 4 sl) = 0) : (mcT 2 0 (([.i ky, .i sl] ++ enA sl es eh ec false ew) ++ mA T S K G Q l c s)).get = some (11, [.i 2] ++ mA T S K G Q l c (mload T S K s 4 sl)) := by
  refine brI ⟨rfl, rfl, rfl, rfl, rfl⟩ ?_
  simp only [pt_wr0, den, Tree.get_br, Tree.get_leaf, h.rowB, if_true, he, hk, mat_lat, h.isW, h0, Bool.not_true, Bool.not_false, Bool.false_eq_true, if_false, beq_self_eq_true]
  split <;> rfl
theorem cm_stale (h : Good T S K G Q l s.ws) (he : isW eh = true) (hk : okT eh S = true) (h0 : stI (lat T S K s.ws 4 sl) = 0) : (mcT 3 0 (([.i sl] ++ enA sl es eh ec false ew) ++ mA T S K G Q l c s)).get = some (15, [.i 2, .i 0, .i 0] ++ mA T S K G Q l c (mload T S K s 4 sl)) := by
  refine brI ⟨rfl, rfl, rfl, rfl, rfl⟩ ?_
  simp only [pt_cm0, den, Tree.get_br, Tree.get_leaf, h.rowB, if_true, he, hk, mat_lat, h.isW, h0, Bool.not_true, Bool.not_false, Bool.false_eq_true, if_false, beq_self_eq_true]
  split <;> rfl
theorem ab_stale (h : Good T S K G Q l s.ws) (he : isW eh = true) (hk : okT eh S = true) (h0 : stI (lat T S K s.ws 4 sl) = 0) : (mcT 4 0 (([.i sl] ++ enA sl es eh ec false ew) ++ mA T S K G Q l c s)).get = some (3, [.i 2, .i 0, .i 0] ++ mA T S K G Q l c (mload T S K s 4 sl)) := by
  refine brI ⟨rfl, rfl, rfl, rfl, rfl⟩ ?_
  simp only [pt_ab0, den, Tree.get_br, Tree.get_leaf, h.rowB, if_true, he, hk, mat_lat, h.isW, h0, Bool.not_true, Bool.not_false, Bool.false_eq_true, if_false, beq_self_eq_true]
  split <;> rfl
theorem sw_stale {th gn : Int} {cl : Bool} (h : Good T S K G Q l s.ws) (he : isW eh = true) (hk : okT eh S = true) (h0 : stI (lat T S K s.ws 4 sl) = 0) : (mcT 5 0 (([.i T, .i S, .i K, .i G, .i Q, .i th, .i sl, .i gn, .b cl, .i 0] ++ [.i sl, .i es, .i eh, .n 4, .n ec, .b false, .b false, .i 0, .i ew, .ws [4, 5, 6, 7]]) ++ mA T S K G Q l c s)).get = some (20, [.i 2] ++ mA T S K G Q l c (mload T S K s 4 sl)) := by
  refine brI ⟨rfl, rfl, rfl, rfl, rfl, rfl, rfl, rfl, rfl, rfl, rfl⟩ ?_
  simp only [pt_enter, lf, den, Tree.get_br, Tree.get_leaf, h.rowB, if_true, he, hk, mat_lat, h.isW, h0, Bool.not_true, Bool.not_false, Bool.false_eq_true, if_false, beq_self_eq_true]
  split <;> rfl
end
end Go.Proofs.YtifojacfedjedaaGreat.Bound
