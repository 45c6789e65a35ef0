/- The words of a world as a list: spots read and written. No condition. -/
import Derived.Test.YtifojacfedjedaaGreatSwTQ
namespace Go.Proofs.YtifojacfedjedaaGreat.Bound
open Go.Proofs.YtifojacfedjedaaGreat.Ev Go.Proofs.YtifojacfedjedaaGreat.ChartMath
set_option linter.unusedVariables false
set_option linter.unusedSimpArgs false
def lat (T S K : Int) (ws : List Int) (k o : Int) : Int := if 0 ≤ cellOf T S K k o then ws.getD (cellOf T S K k o).toNat 0 else 0
def lset (T S K : Int) (ws : List Int) (k o v : Int) : List Int := if 0 ≤ cellOf T S K k o then ws.set (cellOf T S K k o).toNat v else ws
structure Good (T S K G Q : Int) (l : Nat) (ws : List Int) : Prop where
  right : right T S K G Q = true
  len : ws.length = l
  ll : (l : Int) = lenOf T S K
  word : ∀ w ∈ ws, 0 ≤ w ∧ w < 18446744073709551616
variable {T S K G Q : Int} {l : Nat} {ws : List Int} {k o v k' o' v' : Int}
theorem Good.cfg (h : Good T S K G Q l ws) : 1 ≤ T ∧ T ≤ 8 ∧ 1 ≤ S ∧ S ≤ 12 ∧ 1 ≤ K ∧ K ≤ 8 := by
  have := h.right
  simp only [Bound.right, decide_eq_true_eq] at this
  omega
theorem Good.rowB {s : MS} (h : Good T S K G Q l s.ws) : rowB T S K G Q l s = true := row_rowB ⟨h.right, h.len, h.ll⟩
theorem cell_st (h0 : 4 ≤ k) (h1 : k ≤ 7) (h2 : 0 ≤ o) (h3 : o < S) : cellOf T S K k o = 2 + T + (k - 4) + 4 * o := by
  unfold cellOf; repeat' split
  all_goals omega
theorem cell_pin (h2 : 0 ≤ o) (h3 : o < T) : cellOf T S K 3 o = 2 + o := by
  unfold cellOf; repeat' split
  all_goals omega
theorem cell_key (h2 : 0 ≤ o) (h3 : o < K) : cellOf T S K 8 o = 2 + T + 4 * S + o := by
  unfold cellOf; repeat' split
  all_goals omega
theorem cell_ep : cellOf T S K 2 0 = 1 := by
  unfold cellOf; repeat' split
  all_goals omega
theorem cell_len (hT : 0 ≤ T) (hS : 0 ≤ S) (hK : 0 ≤ K) : cellOf T S K k o < lenOf T S K := by
  unfold cellOf lenOf; repeat' split
  all_goals omega
theorem lset_len : (lset T S K ws k o v).length = ws.length := by unfold lset; split <;> simp
theorem lat_same (h0 : 0 ≤ cellOf T S K k o) (h1 : cellOf T S K k o < ws.length) : lat T S K (lset T S K ws k o v) k o = v := by
  have : (cellOf T S K k o).toNat < ws.length := by omega
  simp [lat, lset, h0, List.getD_eq_getElem?_getD, this]
theorem lat_other (h : cellOf T S K k o ≠ cellOf T S K k' o') : lat T S K (lset T S K ws k o v) k' o' = lat T S K ws k' o' := by
  unfold lat lset
  split
  · split
    · have : (cellOf T S K k o).toNat ≠ (cellOf T S K k' o').toNat := by omega
      simp [List.getD_eq_getElem?_getD, List.getElem?_set, this]
    · rfl
  · rfl
theorem lset_twice : lset T S K (lset T S K ws k o v) k o v' = lset T S K ws k o v' := by
  unfold lset
  split
  · rw [List.set_set]
  · rfl
theorem lset_comm (h : cellOf T S K k o ≠ cellOf T S K k' o') : lset T S K (lset T S K ws k o v) k' o' v' = lset T S K (lset T S K ws k' o' v') k o v := by
  unfold lset
  split
  · split
    · have : (cellOf T S K k o).toNat ≠ (cellOf T S K k' o').toNat := by omega
      rw [List.set_comm _ _ this]
    · rfl
  · rfl
theorem lset_self (h1 : cellOf T S K k o < ws.length) : lset T S K ws k o (lat T S K ws k o) = ws := by
  unfold lset lat
  split
  · rename_i h0
    have : (cellOf T S K k o).toNat < ws.length := by omega
    rw [List.getD_eq_getElem?_getD, List.getElem?_eq_getElem this]
    simp
  · rfl
theorem Good.cell (h : Good T S K G Q l ws) (k o : Int) : cellOf T S K k o < ws.length := by
  obtain ⟨_, _, _, _, _, _⟩ := h.cfg
  rw [h.len, h.ll]
  exact cell_len (by omega) (by omega) (by omega)
theorem Good.lat (h : Good T S K G Q l ws) (k o : Int) : 0 ≤ lat T S K ws k o ∧ lat T S K ws k o < 18446744073709551616 := by
  unfold Bound.lat
  split
  · rename_i h0
    have : (cellOf T S K k o).toNat < ws.length := by have := h.cell k o; omega
    rw [List.getD_eq_getElem?_getD, List.getElem?_eq_getElem this]
    exact h.word _ (List.getElem_mem this)
  · omega
theorem Good.isW (h : Good T S K G Q l ws) (k o : Int) : isW (Bound.lat T S K ws k o) = true := by simp only [Bound.isW, decide_eq_true_eq]; exact h.lat k o
theorem Good.lset (h : Good T S K G Q l ws) (hv : 0 ≤ v ∧ v < 18446744073709551616) (k o : Int) : Good T S K G Q l (lset T S K ws k o v) := by
  refine ⟨h.right, by rw [lset_len]; exact h.len, h.ll, fun w hw => ?_⟩
  unfold Bound.lset at hw
  split at hw
  · rcases List.mem_or_eq_of_mem_set hw with hw | rfl
    · exact h.word w hw
    · exact hv
  · exact h.word w hw
theorem mat_lat (s : MS) : mat T S K s k o = lat T S K s.ws k o := rfl
theorem mload_ws (s : MS) : (mload T S K s k o).ws = s.ws := rfl
theorem mstore_ws (s : MS) : (mstore T S K s k o v).ws = lset T S K s.ws k o v := rfl
theorem madd_ws (s : MS) : (madd T S K s k o v).ws = lset T S K s.ws k o (IntKind.u64.wrap (lat T S K s.ws k o + v)) := rfl
theorem mswap_ws {s : MS} (h : mok T S K s k o v' = true) : (mswap T S K s k o v' v).ws = lset T S K s.ws k o v := by
  simp only [mswap, if_pos h]; rfl
theorem mok_lat {s : MS} (h0 : 0 ≤ cellOf T S K k o) : mok T S K s k o (lat T S K s.ws k o) = true := by
  simp [mok, h0, mat_lat]
/-- Words of a status, by numbers. -/
theorem mv_word (w st : Int) (b : Bool) (h : 0 ≤ w ∧ w < 18446744073709551616) : 0 ≤ moveI w st b ∧ moveI w st b < 18446744073709551616 := by
  unfold moveI; split <;> omega
theorem mv_st (w st : Int) (b : Bool) (h : 0 ≤ st ∧ st ≤ 7) : stI (moveI w st b) = st := by
  unfold moveI stI; split <;> omega
theorem mv_mv (w a c : Int) (b d : Bool) : moveI (moveI w a b) c d = moveI w c d := by
  unfold moveI; cases b <;> cases d <;> simp <;> omega
theorem pw26 : pw 26 = 67108864 := rfl
theorem mv_busy (w st : Int) (b : Bool) : bitI (moveI w st b) 26 = b := by
  unfold bitI
  rw [pw26]
  unfold moveI
  cases b
  · rw [beq_eq_false_iff_ne]; simp; omega
  · rw [beq_iff_eq]; simp; omega
theorem mv_self {w : Int} {b : Bool} (h : bitI w 26 = b) : moveI w (stI w) b = w := by
  unfold bitI at h
  rw [pw26] at h
  unfold moveI stI
  cases b
  · rw [beq_eq_false_iff_ne] at h; simp; omega
  · rw [beq_iff_eq] at h; simp; omega
theorem dropM_word {w : Int} (sl : Int) (h : 0 ≤ w ∧ w < 18446744073709551616) (hs : 0 ≤ sl ∧ sl ≤ 11) : 0 ≤ dropM w sl ∧ dropM w sl < 18446744073709551616 := by
  obtain ⟨a, b⟩ := put_word (n := sl) false h.1 h.2 (by omega) (by omega)
  exact put_word (n := 12 + sl) false a b (by omega) (by omega)
theorem dropW_word {w sl : Int} (g : Bool) (h : 0 ≤ w ∧ w < 18446744073709551616) (hs : 0 ≤ sl ∧ sl ≤ 11) : 0 ≤ dropW w sl g ∧ dropW w sl g < 18446744073709551616 := by
  obtain ⟨a, b⟩ := sideD_word (w := w) (out := w) (sd := 0) (sl := sl) (g := g) h.1 h.2 (by simp only [sideOk, decide_eq_true_eq]; omega)
  exact sideD_word a b (by simp only [sideOk, decide_eq_true_eq]; omega)
theorem st_range (w : Int) : 0 ≤ stI w ∧ stI w ≤ 7 := by unfold stI; omega
end Go.Proofs.YtifojacfedjedaaGreat.Bound
