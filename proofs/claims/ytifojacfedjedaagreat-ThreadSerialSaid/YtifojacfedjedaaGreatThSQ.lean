/- A thread's steps, by kinds. No condition. -/
import Derived.Test.YtifojacfedjedaaGreatThFQ
import Derived.Test.YtifojacfedjedaaGreatMcCQ
import Derived.Test.YtifojacfedjedaaGreatMcRQ
import Derived.Test.YtifojacfedjedaaGreatMcWQ
import Derived.Test.YtifojacfedjedaaGreatOpTQ
import Derived.Test.YtifojacfedjedaaGreatSxA
namespace Go.Proofs.YtifojacfedjedaaGreat.Bound
open Go.Proofs.YtifojacfedjedaaGreat.Ev Go.Proofs.YtifojacfedjedaaGreat.ChartMath
set_option linter.unusedVariables false
set_option linter.unusedSimpArgs false
noncomputable def caL : List (FForm × (List Atom → Tree (Nat × List Atom))) := cmL ++ abL
theorem caL_st : ∀ a ∈ caL, ∀ x r, (a.2 x).get = some r → (endF (ev sumsF6 60 348) a.1 x).get = some r := by
  intro a ha
  simp only [caL, cmL, abL, List.cons_append, List.nil_append, List.mem_cons, List.not_mem_nil, or_false] at ha
  rcases ha with rfl | rfl | rfl | rfl | rfl | rfl | rfl | rfl | rfl | rfl | rfl | rfl | rfl | rfl | rfl | rfl | rfl | rfl
  · exact cmO0_st
  · exact cmO1_st
  · exact cmO2_st
  · exact cmO3_st
  · exact cmO4_st
  · exact cmO5_st
  · exact cmO6_st
  · exact cmO7_st
  · exact cmO8_st
  · exact cmO9_st
  · exact cmO10_st
  · exact cmO11_st
  · exact cmO12_st
  · exact cmO13_st
  · exact cmO14_st
  · exact abO0_st
  · exact abO1_st
  · exact abO2_st
noncomputable def with_ca (sums : Sums) : Sums := withT sums 348 caL
theorem with_ca_ok {sums : Sums} (h : SumsOk sums) : SumsOk (with_ca sums) := withT_ok h sumsF6_ok 60 (by kernel_rfl) caL_st
noncomputable def with_sw (sums : Sums) : Sums := withT sums 351 stepL
theorem with_sw_ok {sums : Sums} (h : SumsOk sums) : SumsOk (with_sw sums) := withT_ok h sumsF3_ok 60 (by kernel_rfl) fun a ha => by
  simp only [stepL, List.mem_cons, List.not_mem_nil, or_false] at ha
  rcases ha with rfl | rfl | rfl | rfl | rfl | rfl | rfl | rfl | rfl | rfl | rfl | rfl | rfl | rfl | rfl | rfl | rfl | rfl | rfl | rfl | rfl
  · exact so_enter_st
  · exact so_number_st
  · exact so_agedL_st
  · exact so_agedS_st
  · exact so_die_st
  · exact so_dead_st
  · exact so_tick_st
  · exact so_note_st
  · exact so_retired_st
  · exact so_grace_st
  · exact so_keys_st
  · exact so_unmark_st
  · exact so_past_st
  · exact so_others_st
  · exact so_part_st
  · exact so_close_st
  · exact so_closed_st
  · exact so_nought_st
  · exact so_free_st
  · exact so_later_st
  · exact so_done_st
noncomputable def sumsTh : Sums := with_op (with_rd (with_wr (with_ca (with_sw sumsF7))))
theorem sumsTh_ok : SumsOk sumsTh := with_op_ok (with_rd_ok (with_wr_ok (with_ca_ok (with_sw_ok sumsF7_ok))))
/-- A machine's step, as a tree. -/
def mcT (M k : Nat) (x : List Atom) : Tree (Nat × List Atom) := nthD (fun _ => .bad) (nthD [] [opOs, rdOs, wrOs, cmOs, abOs, soL] M) k x
def Th3Ok (M k : Nat) : Prop := ∀ (t u : Nat → Int) (bo : Nat → Bool) (na : Nat → Nat) (wl : Nat → List Int) (T S K G Q : Int) (l c : Nat) (s : MS), (endF (ev sumsTh 60 14) (thIn 3 M k) (thA t ++ (mcOw M k u bo na wl ++ mA T S K G Q l c s))).get = ((mcT M k (mcOw M k u bo na wl ++ mA T S K G Q l c s)).bind fun r => .leaf (r.1, .b true :: (thA t ++ r.2))).get
def Th1Ok (M k : Nat) : Prop := ∀ (p e : Int) (t u : Nat → Int) (bo : Nat → Bool) (na : Nat → Nat) (wl : Nat → List Int) (T S K G Q : Int) (l c : Nat) (s : MS), (endF (ev sumsTh 60 14) (thIn 1 M k) (thA t ++ (pinA p e ++ (mcOw M k u bo na wl ++ mA T S K G Q l c s)))).get = (Tree.br (rowB T S K G Q l s) (.leaf (0, .b true :: (thA t ++ (pinA p (mat T S K s 2 0) ++ (mcOw M k u bo na wl ++ mA T S K G Q l c (mload T S K s 2 0)))))) .bad).get
def Th2Ok (M k : Nat) : Prop := ∀ (p e : Int) (t u : Nat → Int) (bo : Nat → Bool) (na : Nat → Nat) (wl : Nat → List Int) (T S K G Q : Int) (l c : Nat) (s : MS), (endF (ev sumsTh 60 14) (thIn 2 M k) (thA t ++ (pinA p e ++ (mcOw M k u bo na wl ++ mA T S K G Q l c s)))).get = (Tree.br (rowB T S K G Q l s) (.leaf (0, .b true :: (thA t ++ (mcOw M k u bo na wl ++ mA T S K G Q l c (mstore T S K s 3 p (IntKind.u64.wrap (e + 1))))))) .bad).get
/-- What a machine that is done tells. -/
def tell (M : Nat) (u : Nat → Int) (j : Nat) : Int := cond (isIn M [0, 3, 4]) (u j) (cond (Nat.beq j 0) (u 0) 0)
def thA4 (t : Nat → Int) (M : Nat) (u : Nat → Int) : List Atom := [.i (t 0), .i (t 1), .i (t 2), .i (t 3), .i (t 4), .i (t 5), .i (tell M u 0), .i (tell M u 1), .i (tell M u 2)]
def Th4Ok (M : Nat) : Prop := ∀ (t u : Nat → Int) (bo : Nat → Bool) (na : Nat → Nat) (wl : Nat → List Int) (T S K G Q : Int) (l c : Nat) (s : MS), (endF (ev sumsTh 60 14) (thIn 4 M (mcDone M)) (thA t ++ (mcOw M (mcDone M) u bo na wl ++ mA T S K G Q l c s))).get = (Tree.br (rowB T S K G Q l s) (.leaf (0, .b true :: (thA4 t M u ++ mA T S K G Q l c (mstore T S K s 3 (t 5) 0)))) .bad).get
def Th0Ok : Prop := ∀ (t : Nat → Int) (T S K G Q : Int) (l c : Nat) (s : MS), (endF (ev sumsTh 60 14) (thIn 0 0 0) (thA t ++ mA T S K G Q l c s)).get = some (0, .b false :: (thA t ++ mA T S K G Q l c s))
theorem th0 : Th0Ok := fun t T S K G Q l c s => by kernel_rfl
theorem th3_0_0 : Th3Ok 0 0 := fun t u bo na wl T S K G Q l c s => by kernel_rfl
theorem th3_0_1 : Th3Ok 0 1 := fun t u bo na wl T S K G Q l c s => by kernel_rfl
theorem th3_0_2 : Th3Ok 0 2 := fun t u bo na wl T S K G Q l c s => by kernel_rfl
theorem th3_0_3 : Th3Ok 0 3 := fun t u bo na wl T S K G Q l c s => by kernel_rfl
theorem th3_0_4 : Th3Ok 0 4 := fun t u bo na wl T S K G Q l c s => by kernel_rfl
theorem th3_0_5 : Th3Ok 0 5 := fun t u bo na wl T S K G Q l c s => by kernel_rfl
theorem th3_0_6 : Th3Ok 0 6 := fun t u bo na wl T S K G Q l c s => by kernel_rfl
theorem th3_0_7 : Th3Ok 0 7 := fun t u bo na wl T S K G Q l c s => by kernel_rfl
theorem th3_0_8 : Th3Ok 0 8 := fun t u bo na wl T S K G Q l c s => by kernel_rfl
theorem th3_1_0 : Th3Ok 1 0 := fun t u bo na wl T S K G Q l c s => by kernel_rfl
theorem th3_1_1 : Th3Ok 1 1 := fun t u bo na wl T S K G Q l c s => by kernel_rfl
theorem th3_1_2 : Th3Ok 1 2 := fun t u bo na wl T S K G Q l c s => by kernel_rfl
theorem th3_1_3 : Th3Ok 1 3 := fun t u bo na wl T S K G Q l c s => by kernel_rfl
theorem th3_1_4 : Th3Ok 1 4 := fun t u bo na wl T S K G Q l c s => by kernel_rfl
theorem th3_1_5 : Th3Ok 1 5 := fun t u bo na wl T S K G Q l c s => by kernel_rfl
theorem th3_1_6 : Th3Ok 1 6 := fun t u bo na wl T S K G Q l c s => by kernel_rfl
theorem th3_1_7 : Th3Ok 1 7 := fun t u bo na wl T S K G Q l c s => by kernel_rfl
theorem th3_1_8 : Th3Ok 1 8 := fun t u bo na wl T S K G Q l c s => by kernel_rfl
theorem th3_2_0 : Th3Ok 2 0 := fun t u bo na wl T S K G Q l c s => by kernel_rfl
theorem th3_2_1 : Th3Ok 2 1 := fun t u bo na wl T S K G Q l c s => by kernel_rfl
theorem th3_2_2 : Th3Ok 2 2 := fun t u bo na wl T S K G Q l c s => by kernel_rfl
theorem th3_2_3 : Th3Ok 2 3 := fun t u bo na wl T S K G Q l c s => by kernel_rfl
theorem th3_2_4 : Th3Ok 2 4 := fun t u bo na wl T S K G Q l c s => by kernel_rfl
theorem th3_2_5 : Th3Ok 2 5 := fun t u bo na wl T S K G Q l c s => by kernel_rfl
theorem th3_2_6 : Th3Ok 2 6 := fun t u bo na wl T S K G Q l c s => by kernel_rfl
theorem th3_2_7 : Th3Ok 2 7 := fun t u bo na wl T S K G Q l c s => by kernel_rfl
theorem th3_2_8 : Th3Ok 2 8 := fun t u bo na wl T S K G Q l c s => by kernel_rfl
theorem th3_2_9 : Th3Ok 2 9 := fun t u bo na wl T S K G Q l c s => by kernel_rfl
theorem th3_2_10 : Th3Ok 2 10 := fun t u bo na wl T S K G Q l c s => by kernel_rfl
theorem th3_3_0 : Th3Ok 3 0 := fun t u bo na wl T S K G Q l c s => by kernel_rfl
theorem th3_3_1 : Th3Ok 3 1 := fun t u bo na wl T S K G Q l c s => by kernel_rfl
theorem th3_3_2 : Th3Ok 3 2 := fun t u bo na wl T S K G Q l c s => by kernel_rfl
theorem th3_3_3 : Th3Ok 3 3 := fun t u bo na wl T S K G Q l c s => by kernel_rfl
theorem th3_3_4 : Th3Ok 3 4 := fun t u bo na wl T S K G Q l c s => by kernel_rfl
theorem th3_3_5 : Th3Ok 3 5 := fun t u bo na wl T S K G Q l c s => by kernel_rfl
theorem th3_3_6 : Th3Ok 3 6 := fun t u bo na wl T S K G Q l c s => by kernel_rfl
theorem th3_3_7 : Th3Ok 3 7 := fun t u bo na wl T S K G Q l c s => by kernel_rfl
theorem th3_3_8 : Th3Ok 3 8 := fun t u bo na wl T S K G Q l c s => by kernel_rfl
theorem th3_3_9 : Th3Ok 3 9 := fun t u bo na wl T S K G Q l c s => by kernel_rfl
theorem th3_3_10 : Th3Ok 3 10 := fun t u bo na wl T S K G Q l c s => by kernel_rfl
theorem th3_3_11 : Th3Ok 3 11 := fun t u bo na wl T S K G Q l c s => by kernel_rfl
theorem th3_3_12 : Th3Ok 3 12 := fun t u bo na wl T S K G Q l c s => by kernel_rfl
theorem th3_3_13 : Th3Ok 3 13 := fun t u bo na wl T S K G Q l c s => by kernel_rfl
theorem th3_3_14 : Th3Ok 3 14 := fun t u bo na wl T S K G Q l c s => by kernel_rfl
theorem th3_4_0 : Th3Ok 4 0 := fun t u bo na wl T S K G Q l c s => by kernel_rfl
theorem th3_4_1 : Th3Ok 4 1 := fun t u bo na wl T S K G Q l c s => by kernel_rfl
theorem th3_4_2 : Th3Ok 4 2 := fun t u bo na wl T S K G Q l c s => by kernel_rfl
theorem th3_5_0 : Th3Ok 5 0 := fun t u bo na wl T S K G Q l c s => by kernel_rfl
theorem th3_5_1 : Th3Ok 5 1 := fun t u bo na wl T S K G Q l c s => by kernel_rfl
theorem th3_5_2 : Th3Ok 5 2 := fun t u bo na wl T S K G Q l c s => by kernel_rfl
theorem th3_5_3 : Th3Ok 5 3 := fun t u bo na wl T S K G Q l c s => by kernel_rfl
theorem th3_5_4 : Th3Ok 5 4 := fun t u bo na wl T S K G Q l c s => by kernel_rfl
theorem th3_5_5 : Th3Ok 5 5 := fun t u bo na wl T S K G Q l c s => by kernel_rfl
theorem th3_5_6 : Th3Ok 5 6 := fun t u bo na wl T S K G Q l c s => by kernel_rfl
theorem th3_5_7 : Th3Ok 5 7 := fun t u bo na wl T S K G Q l c s => by kernel_rfl
theorem th3_5_8 : Th3Ok 5 8 := fun t u bo na wl T S K G Q l c s => by kernel_rfl
theorem th3_5_9 : Th3Ok 5 9 := fun t u bo na wl T S K G Q l c s => by kernel_rfl
theorem th3_5_10 : Th3Ok 5 10 := fun t u bo na wl T S K G Q l c s => by kernel_rfl
theorem th3_5_11 : Th3Ok 5 11 := fun t u bo na wl T S K G Q l c s => by kernel_rfl
theorem th3_5_12 : Th3Ok 5 12 := fun t u bo na wl T S K G Q l c s => by kernel_rfl
theorem th3_5_13 : Th3Ok 5 13 := fun t u bo na wl T S K G Q l c s => by kernel_rfl
theorem th3_5_14 : Th3Ok 5 14 := fun t u bo na wl T S K G Q l c s => by kernel_rfl
theorem th3_5_15 : Th3Ok 5 15 := fun t u bo na wl T S K G Q l c s => by kernel_rfl
theorem th3_5_16 : Th3Ok 5 16 := fun t u bo na wl T S K G Q l c s => by kernel_rfl
theorem th3_5_17 : Th3Ok 5 17 := fun t u bo na wl T S K G Q l c s => by kernel_rfl
theorem th3_5_18 : Th3Ok 5 18 := fun t u bo na wl T S K G Q l c s => by kernel_rfl
theorem th3_5_19 : Th3Ok 5 19 := fun t u bo na wl T S K G Q l c s => by kernel_rfl
theorem th1_0_0 : Th1Ok 0 0 := fun p e t u bo na wl T S K G Q l c s => by kernel_rfl
theorem th2_0_0 : Th2Ok 0 0 := fun p e t u bo na wl T S K G Q l c s => by kernel_rfl
theorem th1_1_0 : Th1Ok 1 0 := fun p e t u bo na wl T S K G Q l c s => by kernel_rfl
theorem th2_1_0 : Th2Ok 1 0 := fun p e t u bo na wl T S K G Q l c s => by kernel_rfl
theorem th1_1_9 : Th1Ok 1 9 := fun p e t u bo na wl T S K G Q l c s => by kernel_rfl
theorem th2_1_9 : Th2Ok 1 9 := fun p e t u bo na wl T S K G Q l c s => by kernel_rfl
theorem th1_2_0 : Th1Ok 2 0 := fun p e t u bo na wl T S K G Q l c s => by kernel_rfl
theorem th2_2_0 : Th2Ok 2 0 := fun p e t u bo na wl T S K G Q l c s => by kernel_rfl
theorem th1_2_11 : Th1Ok 2 11 := fun p e t u bo na wl T S K G Q l c s => by kernel_rfl
theorem th2_2_11 : Th2Ok 2 11 := fun p e t u bo na wl T S K G Q l c s => by kernel_rfl
theorem th1_3_0 : Th1Ok 3 0 := fun p e t u bo na wl T S K G Q l c s => by kernel_rfl
theorem th2_3_0 : Th2Ok 3 0 := fun p e t u bo na wl T S K G Q l c s => by kernel_rfl
theorem th1_3_15 : Th1Ok 3 15 := fun p e t u bo na wl T S K G Q l c s => by kernel_rfl
theorem th2_3_15 : Th2Ok 3 15 := fun p e t u bo na wl T S K G Q l c s => by kernel_rfl
theorem th1_4_0 : Th1Ok 4 0 := fun p e t u bo na wl T S K G Q l c s => by kernel_rfl
theorem th2_4_0 : Th2Ok 4 0 := fun p e t u bo na wl T S K G Q l c s => by kernel_rfl
theorem th1_4_3 : Th1Ok 4 3 := fun p e t u bo na wl T S K G Q l c s => by kernel_rfl
theorem th2_4_3 : Th2Ok 4 3 := fun p e t u bo na wl T S K G Q l c s => by kernel_rfl
theorem th1_5_0 : Th1Ok 5 0 := fun p e t u bo na wl T S K G Q l c s => by kernel_rfl
theorem th2_5_0 : Th2Ok 5 0 := fun p e t u bo na wl T S K G Q l c s => by kernel_rfl
theorem th1_5_20 : Th1Ok 5 20 := fun p e t u bo na wl T S K G Q l c s => by kernel_rfl
theorem th2_5_20 : Th2Ok 5 20 := fun p e t u bo na wl T S K G Q l c s => by kernel_rfl
theorem th4_0 : Th4Ok 0 := fun t u bo na wl T S K G Q l c s => by kernel_rfl
theorem th4_1 : Th4Ok 1 := fun t u bo na wl T S K G Q l c s => by kernel_rfl
theorem th4_2 : Th4Ok 2 := fun t u bo na wl T S K G Q l c s => by kernel_rfl
theorem th4_3 : Th4Ok 3 := fun t u bo na wl T S K G Q l c s => by kernel_rfl
theorem th4_4 : Th4Ok 4 := fun t u bo na wl T S K G Q l c s => by kernel_rfl
theorem th4_5 : Th4Ok 5 := fun t u bo na wl T S K G Q l c s => by kernel_rfl
end Go.Proofs.YtifojacfedjedaaGreat.Bound
