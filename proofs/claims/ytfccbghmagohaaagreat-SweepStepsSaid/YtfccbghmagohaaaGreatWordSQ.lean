/- The pure functions of words, as sums: the program's and the document's tell the same. No condition. -/
import Derived.Test.YtfccbghmagohaaaGreatPutQ
namespace Go.Proofs.YtfccbghmagohaaaGreat.Bound
open Go.Proofs.YtfccbghmagohaaaGreat.Ev
set_option linter.unusedVariables false
set_option linter.unusedSimpArgs false
theorem move_t (w st : Int) : outV (ev noSums 60 108 [.int .u64 w, .int .i64 st, .bool true] ⟨.nil, 0⟩) = some (.int .u64 (moveP w st 1)) := by kernel_rfl
theorem move_f (w st : Int) : outV (ev noSums 60 108 [.int .u64 w, .int .i64 st, .bool false] ⟨.nil, 0⟩) = some (.int .u64 (moveP w st 0)) := by kernel_rfl
def moveS : List Value → Option (Bool × Value)
  | [.int .u64 w, .int .i64 st, .bool b] => some (isW w, .int .u64 (moveI w st b))
  | _ => none
noncomputable def sumsD1 : Sums := withIf sumsB2 108 moveS
theorem sumsD1_ok : SumsOk sumsD1 := withIf_ok sumsB2_ok noSums_ok 60 (by kernel_rfl) fun al v h => by
  unfold moveS at h
  split at h
  · rename_i w st b
    simp only [Option.some.injEq, Prod.mk.injEq, isW_iff] at h
    obtain ⟨⟨h0, h1⟩, rfl⟩ := h
    refine ⟨rfl, rfl, ?_⟩
    have hm := moveP_is (st := st) h0 h1 b
    cases b with
    | true => rw [move_t, ← hm]; rfl
    | false => rw [move_f, ← hm]; rfl
  · cases h
theorem move_word {w st : Int} (b : Bool) (h0 : 0 ≤ w) (h1 : w < 18446744073709551616) : 0 ≤ moveI w st b := by
  unfold moveI
  cases b <;> simp only [Bool.false_eq_true, if_false, if_true] <;> omega
theorem rmove_way (w st : Int) (b : Bool) : walkV (ev sumsB2 60 59 [.int .u64 w, .int .i64 st, .bool b] ⟨.nil, 0⟩) [false, false, true, true, false, true, false, true, true] =
    some ([false, decide (st.tmod (8 : Int) < (0 : Int)), true, true, false, true, false, true, (isW (IntKind.u64.wrap (IntKind.u64.wrap (w - IntKind.u64.wrap (pw (27 : Int) * IntKind.u64.wrap (IntKind.i64.wrap ((IntKind.u64.wrap (w.tdiv (pw (27 : Int)))).tmod (pw (3 : Int)))))) + IntKind.u64.wrap (pw (27 : Int) * IntKind.u64.wrap (st.tmod (8 : Int))))) && decide ((0 : Int) ≤ (26 : Int) ∧ (26 : Int) ≤ (40 : Int)), Value.int IntKind.u64 (putI (IntKind.u64.wrap (IntKind.u64.wrap (w - IntKind.u64.wrap (pw (27 : Int) * IntKind.u64.wrap (IntKind.i64.wrap ((IntKind.u64.wrap (w.tdiv (pw (27 : Int)))).tmod (pw (3 : Int)))))) + IntKind.u64.wrap (pw (27 : Int) * IntKind.u64.wrap (st.tmod (8 : Int))))) (26 : Int) b)).fst], .int .u64 (putI (IntKind.u64.wrap (IntKind.u64.wrap (w - IntKind.u64.wrap (pw (27 : Int) * IntKind.u64.wrap (IntKind.i64.wrap ((IntKind.u64.wrap (w.tdiv (pw (27 : Int)))).tmod (pw (3 : Int)))))) + IntKind.u64.wrap (pw (27 : Int) * IntKind.u64.wrap (st.tmod (8 : Int))))) (26 : Int) b)) := by kernel_rfl
theorem rmove_x {w st : Int} (h0 : 0 ≤ w) (h1 : w < 18446744073709551616) (h2 : 0 ≤ st) (h3 : st ≤ 7) : (IntKind.u64.wrap (IntKind.u64.wrap (w - IntKind.u64.wrap (pw (27 : Int) * IntKind.u64.wrap (IntKind.i64.wrap ((IntKind.u64.wrap (w.tdiv (pw (27 : Int)))).tmod (pw (3 : Int)))))) + IntKind.u64.wrap (pw (27 : Int) * IntKind.u64.wrap (st.tmod (8 : Int))))) = w - w / 134217728 % 8 * 134217728 + st * 134217728 := by
  have p27 : pw 27 = 134217728 := rfl
  have p3 : pw 3 = 8 := rfl
  rw [p27, p3, Int.tdiv_eq_ediv_of_nonneg h0, wrap_id (x := w / 134217728) (by omega) (by omega), Int.tmod_eq_emod_of_nonneg (show 0 ≤ w / 134217728 by omega), Int.tmod_eq_emod_of_nonneg h2, IntKind.wrap_i64]
  have e1 : (w / 134217728 % 8 + 9223372036854775808) % 18446744073709551616 - 9223372036854775808 = w / 134217728 % 8 := by omega
  have e2 : st % 8 = st := by omega
  rw [e1, e2, wrap_id (x := w / 134217728 % 8) (by omega) (by omega), wrap_id (x := st) (by omega) (by omega), wrap_id (x := 134217728 * (w / 134217728 % 8)) (by omega) (by omega), wrap_id (x := 134217728 * st) (by omega) (by omega), wrap_id (x := w - 134217728 * (w / 134217728 % 8)) (by omega) (by omega), wrap_id (by omega) (by omega)]
  omega
theorem rmove_is {w st : Int} (b : Bool) (h0 : 0 ≤ w) (h1 : w < 18446744073709551616) (h2 : 0 ≤ st) (h3 : st ≤ 7) : outV (ev sumsB2 60 59 [.int .u64 w, .int .i64 st, .bool b] ⟨.nil, 0⟩) = some (.int .u64 (moveI w st b)) := by
  have hx := rmove_x h0 h1 h2 h3
  have hneg : ¬ st.tmod 8 < 0 := by rw [Int.tmod_eq_emod_of_nonneg h2]; omega
  have hw : isW (w - w / 134217728 % 8 * 134217728 + st * 134217728) = true := isW_iff.2 (by omega)
  rw [outV_walk (rmove_way w st b) (by rw [hx, hw, decide_eq_false hneg]; rfl), hx]
  congr 2
  unfold putI moveI
  have p26 : pw 26 = 67108864 := rfl
  rw [p26]
  cases b <;> simp only [cond_true, cond_false, Bool.false_eq_true, if_false, if_true] <;> omega
def rmoveS : List Value → Option (Bool × Value)
  | [.int .u64 w, .int .i64 st, .bool b] => some (isW w && decide (0 ≤ st ∧ st ≤ 7), .int .u64 (moveI w st b))
  | _ => none
noncomputable def sumsD2 : Sums := withIf sumsD1 59 rmoveS
theorem sumsD2_ok : SumsOk sumsD2 := withIf_ok sumsD1_ok sumsB2_ok 60 (by kernel_rfl) fun al v h => by
  unfold rmoveS at h
  split at h
  · simp only [Option.some.injEq, Prod.mk.injEq, Bool.and_eq_true, decide_eq_true_eq, isW_iff] at h
    obtain ⟨⟨⟨h0, h1⟩, h2, h3⟩, rfl⟩ := h
    exact ⟨rfl, rfl, rmove_is _ h0 h1 h2 h3⟩
  · cases h
end Go.Proofs.YtfccbghmagohaaaGreat.Bound
