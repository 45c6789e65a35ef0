/- A step of a sweep, by the program and by the document: tick. No condition. A step of a sweep, by the program and by the document: keys. No condition. A step of a sweep, by the program and by the document: unmark. No condition. A step of a sweep, by the program and by the document: close. No condition. A step of a sweep, by the program and by the document: closed. No condition. A step of a sweep, by the program and by the document: nought. No condition. A step of a sweep, by the program and by the document: free. No condition. A step of a sweep, by the program and by the document: done. No condition. A step of a sweep, by the program and by the document: none. No condition. A step of a sweep, by the program and by the document: die. No condition. -/
import Derived.Test.YtfccbghmagohaaaGreatSwHQ
section
namespace Go.Proofs.YtfccbghmagohaaaGreat.Bound
open Go.Proofs.YtfccbghmagohaaaGreat.Ev Go.Proofs.YtfccbghmagohaaaGreat.ChartMath
set_option linter.unusedVariables false
set_option linter.unusedSimpArgs false
variable (f : Bool) (T S K G Q : Int) (l c : Nat) (s : MS) (len k : Int) (cells : List Int) (rs : List (List Int)) (pt ph steps : Int) (pn pc : Nat) (th sl gn : Int) (cl : Bool) (xat xw xr xn gh : Int) (gt : Bool) (gs gw ge : Int) (gd : Bool) (ax asl an aa : Int) (ak al : Bool) (po pr pp : Int) (pl : Bool) (lx ly : Int) (lk : Bool) (lw : Int) (ld : Bool)
theorem h_tick_way_0 : walk (roundM sumsS2 60 7 9 2 (SMf f) (h_tick f T S K G Q l c s len k cells rs pt ph steps pn pc th sl gn cl xat xw xr xn gh gt gs gw ge gd ax asl an aa ak al po pr pp pl lx ly lk lw ld)) (layB f [true] [true] [] [true, true, false, false, false, false, false, false, false, false, false, false, false, false, false, false, false, false, true, true, true, false, false, false, false, false, false, false, false, false, false, false]) =
    some (layB f [decide (k < len)] [rowB T S K G Q l s && (rowB T S K G Q l s && decide (T = T ∧ S = S ∧ K = K ∧ G = G ∧ Q = Q ∧ l = l ∧ l = l ∧ rs.length = pn ∧ pn ≤ (100000 : Nat)))] [] [true, rowB T S K G Q l (PK f T S K k rs s), false, false, false, false, false, false, false, false, false, false, false, false, false, false, false, false, true, rowB T S K G Q l (PK f T S K k rs s) && l.beq l, rowB T S K G Q l (madd T S K (PK f T S K k rs s) (2 : Int) (0 : Int) (1 : Int)) && (madd T S K (PK f T S K k rs s) (2 : Int) (0 : Int) (1 : Int)).ws.length.beq l, !alikeB (madd T S K (PK f T S K k rs s) (2 : Int) (0 : Int) (1 : Int)) (madd T S K (PK f T S K k rs s) (2 : Int) (0 : Int) (1 : Int)), false, false, false, false, false, false, false, false, false, false], (.normal, layA f [.n 7, .i (len), .i (IntKind.i64.wrap (k + (1 : Int))), .ws (cells), .rs (rs), .i (pt), .i (ph), .i (steps)] [.n (pn), .n (pc)] [.i (T), .i (S), .i (K), .i (G), .i (Q), .n (l), .n (c), .i ((madd T S K (PK f T S K k rs s) (2 : Int) (0 : Int) (1 : Int)).tk), .i ((madd T S K (PK f T S K k rs s) (2 : Int) (0 : Int) (1 : Int)).ts), .i ((madd T S K (PK f T S K k rs s) (2 : Int) (0 : Int) (1 : Int)).to), .i ((madd T S K (PK f T S K k rs s) (2 : Int) (0 : Int) (1 : Int)).told), .i ((madd T S K (PK f T S K k rs s) (2 : Int) (0 : Int) (1 : Int)).tnew), .b true, .i ((madd T S K (PK f T S K k rs s) (2 : Int) (0 : Int) (1 : Int)).many), .ws ((madd T S K (PK f T S K k rs s) (2 : Int) (0 : Int) (1 : Int)).ws), .i (T), .i (S), .i (K), .i (G), .i (Q), .n (l), .n (l), .i ((madd T S K (PK f T S K k rs s) (2 : Int) (0 : Int) (1 : Int)).many), .i ((madd T S K (PK f T S K k rs s) (2 : Int) (0 : Int) (1 : Int)).tk), .i ((madd T S K (PK f T S K k rs s) (2 : Int) (0 : Int) (1 : Int)).ts), .i ((madd T S K (PK f T S K k rs s) (2 : Int) (0 : Int) (1 : Int)).to), .i ((madd T S K (PK f T S K k rs s) (2 : Int) (0 : Int) (1 : Int)).told), .i ((madd T S K (PK f T S K k rs s) (2 : Int) (0 : Int) (1 : Int)).tnew), .b true, .ws ((madd T S K (PK f T S K k rs s) (2 : Int) (0 : Int) (1 : Int)).ws), .i (T), .i (S), .i (K), .i (G), .i (Q), .i (th), .i (sl), .i (gn), .b (cl), .i (mat T S K (PK f T S K k rs s) (2 : Int) (0 : Int)), .i ((0 : Int)), .i (T), .i (S), .i (K), .i (G), .i (Q), .i (th), .i (sl), .i (gn), .i ((6 : Int)), .i (xat), .b (cl), .i (xw), .i (mat T S K (PK f T S K k rs s) (2 : Int) (0 : Int)), .i (xn), .i (gh), .n 4, .n 4, .b (gt), .i (gs), .i (gw), .i (ge), .b (gd), .i (ax), .i (asl), .i (an), .i (aa), .b (ak), .b (al), .i (po), .i (pr), .i (pp), .b (pl), .i (lx), .i (ly), .b (lk), .i (lw), .b (ld), .i ((0 : Int)), .b false, .ws ([(4 : Int), (5 : Int), (6 : Int), (7 : Int)])])) := by cases f <;> kernel_rfl
theorem h_tick_way_1 : walk (roundM sumsS2 60 7 9 2 (SMf f) (h_tick f T S K G Q l c s len k cells rs pt ph steps pn pc th sl gn cl xat xw xr xn gh gt gs gw ge gd ax asl an aa ak al po pr pp pl lx ly lk lw ld)) ([false]) =
    some ([decide (k < len)], (.exit 0, [.n 0, .ws (cells), .rs (rs)])) := by cases f <;> kernel_rfl
theorem h_tick_step (hg : Base T S K G Q l rs pn len k s) (hc : (0 ≤ sl ∧ sl ≤ 11 ∧ 0 ≤ gn ∧ gn ≤ 1073741823)) : Gone f T S K G Q l c len cells rs pt ph steps pn pc k (roundM sumsS2 60 7 9 2 (SMf f) (h_tick f T S K G Q l c s len k cells rs pt ph steps pn pc th sl gn cl xat xw xr xn gh gt gs gw ge gd ax asl an aa ak al po pr pp pl lx ly lk lw ld)) := by
  have hs := hg.row
  have hmn := hg.many
  have hn5 : pn ≤ 100000 := by have := hg.few; omega
  obtain ⟨hR, hkw, hp, hpw, hpl⟩ := base_moreP f hg
  have hm : ∀ k' o, 0 ≤ mat T S K (PK f T S K k rs s) k' o ∧ mat T S K (PK f T S K k rs s) k' o < 18446744073709551616 := fun k' o => mat_word hpw
  have hmW : ∀ k' o, isW (mat T S K (PK f T S K k rs s) k' o) = true := fun k' o => isW_iff.2 (hm k' o)
  have hpos : ∀ k' o, decide (mat T S K (PK f T S K k rs s) k' o > 0) = !(mat T S K (PK f T S K k rs s) k' o == 0) := fun k' o => by
    have := pos_ne (hm k' o).1
    exact this
  have hK0 : decide (0 < K) = true := decide_eq_true (by omega)
  have hsl : decide (0 ≤ sl ∧ sl ≤ 11) = true := decide_eq_true (by omega)
  have hgw : IntKind.i64.wrap (gn + 1) = gn + 1 := by rw [IntKind.wrap_i64]; omega
  have hgn : decide ((0 : Int) ≤ 0 ∧ (0 : Int) ≤ 7 ∧ 0 ≤ gn + 1 ∧ gn + 1 ≤ 1073741824) = true := decide_eq_true (by omega)
  rcases bool_two (decide (k < len)) with h0 | h0
  · exact gone_n (get_walk (h_tick_way_0 ..) (by simp only [h0, rowB_add2, rowB_add, madd_len, hsl, hgn, hgw, tickE, hmn, hn5, eq_self, and_self, decide_true, hs, hp, alikeB_self, rowB_load, hpl, Bool.not_true, Bool.not_false, Bool.and_self, Bool.true_and, Bool.and_true, cond_false, cond_true, beq_self_eq_true, hmW, stI_ok, x01, hpos, hK0, mload_len, Nat.beq_refl, q_ge, q_le, q_gt, q_ne])) ⟨of_decide_eq_true h0, by rw [hkw]; exact .note _ _ _ _ _ _ _ _ _ _ _ _ _ _ _ _ _ _ _ _ _ _ _ _ _ _ _ _ _ _ _ (base_nextP hg h0 rowB_add (mwords_add hpw)) (by have := hm (2 : Int) (0 : Int); first | (simp only [decide_eq_true_eq, decide_eq_false_iff_not, beq_iff_eq, beq_eq_false_iff_ne, ne_eq, IntKind.wrap_i64] at h0 ⊢; omega) | omega)⟩
  · exact gone_x (get_walk (h_tick_way_1 ..) (by simp only [h0, rowB_add2, rowB_add, madd_len, hsl, hgn, hgw, tickE, hmn, hn5, eq_self, and_self, decide_true, hs, hp, alikeB_self, rowB_load, hpl, Bool.not_true, Bool.not_false, Bool.and_self, Bool.true_and, Bool.and_true, cond_false, cond_true, beq_self_eq_true, hmW, stI_ok, x01, hpos, hK0, mload_len, Nat.beq_refl, q_ge, q_le, q_gt, q_ne]))
end Go.Proofs.YtfccbghmagohaaaGreat.Bound
end

section
namespace Go.Proofs.YtfccbghmagohaaaGreat.Bound
open Go.Proofs.YtfccbghmagohaaaGreat.Ev Go.Proofs.YtfccbghmagohaaaGreat.ChartMath
set_option linter.unusedVariables false
set_option linter.unusedSimpArgs false
variable (f : Bool) (T S K G Q : Int) (l c : Nat) (s : MS) (len k : Int) (cells : List Int) (rs : List (List Int)) (pt ph steps : Int) (pn pc : Nat) (th sl gn a : Int) (cl : Bool) (xw xr xn gh : Int) (gt : Bool) (gs gw ge : Int) (gd : Bool) (ax asl an aa : Int) (ak al : Bool) (po pr pp : Int) (pl : Bool) (lx ly : Int) (lk : Bool) (lw : Int) (ld : Bool)
theorem h_keys_way_0 : walk (roundM sumsS2 60 7 9 2 (SMf f) (h_keys f T S K G Q l c s len k cells rs pt ph steps pn pc th sl gn a cl xw xr xn gh gt gs gw ge gd ax asl an aa ak al po pr pp pl lx ly lk lw ld)) (layB f [true] [true] [] [true, true, true, true, false, true, false, false, true, true, true, true, true, true, true, true, false, false, false, false, false, false, false, false, false, false, false]) =
    some (layB f [decide (k < len)] [rowB T S K G Q l s && (rowB T S K G Q l s && decide (T = T ∧ S = S ∧ K = K ∧ G = G ∧ Q = Q ∧ l = l ∧ l = l ∧ rs.length = pn ∧ pn ≤ (100000 : Nat)))] [] [true, rowB T S K G Q l (PK f T S K k rs s), (isW (mat T S K (PK f T S K k rs s) (8 : Int) a) && decide ((0 : Int) ≤ sl ∧ sl ≤ (11 : Int))), dropM (mat T S K (PK f T S K k rs s) (8 : Int) a) sl == mat T S K (PK f T S K k rs s) (8 : Int) a, IntKind.i64.wrap (a + (1 : Int)) == (-1 : Int), !decide (IntKind.i64.wrap (a + (1 : Int)) < K), false, false, true, true, true, rowB T S K G Q l (PK f T S K k rs s), (isW (mat T S K (PK f T S K k rs s) (8 : Int) a) && decide ((0 : Int) ≤ sl ∧ sl ≤ (11 : Int))), dropM (mat T S K (PK f T S K k rs s) (8 : Int) a) sl == mat T S K (PK f T S K k rs s) (8 : Int) a, decide (IntKind.i64.wrap (a + (1 : Int)) ≥ K), rowB T S K G Q l (mload T S K (PK f T S K k rs s) (8 : Int) a) && (PK f T S K k rs s).ws.length.beq l, !alikeB (mload T S K (PK f T S K k rs s) (8 : Int) a) (mload T S K (PK f T S K k rs s) (8 : Int) a), false, false, false, false, false, false, false, false, false, false], (.normal, h_past f T S K G Q l c (mload T S K (PK f T S K k rs s) (8 : Int) a) len (IntKind.i64.wrap (k + (1 : Int))) cells rs pt ph steps pn pc th sl gn cl (IntKind.i64.wrap (a + (1 : Int))) (mat T S K (PK f T S K k rs s) (8 : Int) a) xr xn gh gt gs gw ge gd ax asl an aa ak al po pr pp pl lx ly lk lw ld)) := by cases f <;> kernel_rfl
theorem h_keys_way_1 : walk (roundM sumsS2 60 7 9 2 (SMf f) (h_keys f T S K G Q l c s len k cells rs pt ph steps pn pc th sl gn a cl xw xr xn gh gt gs gw ge gd ax asl an aa ak al po pr pp pl lx ly lk lw ld)) (layB f [true] [true] [] [true, true, true, true, false, false, false, false, true, true, true, true, true, true, false, true, false, false, false, false, false, false, false, false, false, false, false]) =
    some (layB f [decide (k < len)] [rowB T S K G Q l s && (rowB T S K G Q l s && decide (T = T ∧ S = S ∧ K = K ∧ G = G ∧ Q = Q ∧ l = l ∧ l = l ∧ rs.length = pn ∧ pn ≤ (100000 : Nat)))] [] [true, rowB T S K G Q l (PK f T S K k rs s), (isW (mat T S K (PK f T S K k rs s) (8 : Int) a) && decide ((0 : Int) ≤ sl ∧ sl ≤ (11 : Int))), dropM (mat T S K (PK f T S K k rs s) (8 : Int) a) sl == mat T S K (PK f T S K k rs s) (8 : Int) a, IntKind.i64.wrap (a + (1 : Int)) == (-1 : Int), !decide (IntKind.i64.wrap (a + (1 : Int)) < K), false, false, true, true, true, rowB T S K G Q l (PK f T S K k rs s), (isW (mat T S K (PK f T S K k rs s) (8 : Int) a) && decide ((0 : Int) ≤ sl ∧ sl ≤ (11 : Int))), dropM (mat T S K (PK f T S K k rs s) (8 : Int) a) sl == mat T S K (PK f T S K k rs s) (8 : Int) a, decide (IntKind.i64.wrap (a + (1 : Int)) ≥ K), rowB T S K G Q l (mload T S K (PK f T S K k rs s) (8 : Int) a) && (PK f T S K k rs s).ws.length.beq l, !alikeB (mload T S K (PK f T S K k rs s) (8 : Int) a) (mload T S K (PK f T S K k rs s) (8 : Int) a), false, false, false, false, false, false, false, false, false, false], (.normal, h_keys f T S K G Q l c (mload T S K (PK f T S K k rs s) (8 : Int) a) len (IntKind.i64.wrap (k + (1 : Int))) cells rs pt ph steps pn pc th sl gn (IntKind.i64.wrap (a + (1 : Int))) cl (mat T S K (PK f T S K k rs s) (8 : Int) a) xr xn gh gt gs gw ge gd ax asl an aa ak al po pr pp pl lx ly lk lw ld)) := by cases f <;> kernel_rfl
theorem h_keys_way_2 : walk (roundM sumsS2 60 7 9 2 (SMf f) (h_keys f T S K G Q l c s len k cells rs pt ph steps pn pc th sl gn a cl xw xr xn gh gt gs gw ge gd ax asl an aa ak al po pr pp pl lx ly lk lw ld)) (layB f [true] [true] [] [true, true, true, false, false, false, true, true, true, true, true, false, true, false, false, false, false, false, false, false, false, false, false, false]) =
    some (layB f [decide (k < len)] [rowB T S K G Q l s && (rowB T S K G Q l s && decide (T = T ∧ S = S ∧ K = K ∧ G = G ∧ Q = Q ∧ l = l ∧ l = l ∧ rs.length = pn ∧ pn ≤ (100000 : Nat)))] [] [true, rowB T S K G Q l (PK f T S K k rs s), (isW (mat T S K (PK f T S K k rs s) (8 : Int) a) && decide ((0 : Int) ≤ sl ∧ sl ≤ (11 : Int))), dropM (mat T S K (PK f T S K k rs s) (8 : Int) a) sl == mat T S K (PK f T S K k rs s) (8 : Int) a, false, false, true, true, true, rowB T S K G Q l (PK f T S K k rs s), (isW (mat T S K (PK f T S K k rs s) (8 : Int) a) && decide ((0 : Int) ≤ sl ∧ sl ≤ (11 : Int))), dropM (mat T S K (PK f T S K k rs s) (8 : Int) a) sl == mat T S K (PK f T S K k rs s) (8 : Int) a, rowB T S K G Q l (mload T S K (PK f T S K k rs s) (8 : Int) a) && (PK f T S K k rs s).ws.length.beq l, !alikeB (mload T S K (PK f T S K k rs s) (8 : Int) a) (mload T S K (PK f T S K k rs s) (8 : Int) a), false, false, false, false, false, false, false, false, false, false], (.normal, h_unmark f T S K G Q l c (mload T S K (PK f T S K k rs s) (8 : Int) a) len (IntKind.i64.wrap (k + (1 : Int))) cells rs pt ph steps pn pc th sl gn a cl (mat T S K (PK f T S K k rs s) (8 : Int) a) xr xn gh gt gs gw ge gd ax asl an aa ak al po pr pp pl lx ly lk lw ld)) := by cases f <;> kernel_rfl
theorem h_keys_way_3 : walk (roundM sumsS2 60 7 9 2 (SMf f) (h_keys f T S K G Q l c s len k cells rs pt ph steps pn pc th sl gn a cl xw xr xn gh gt gs gw ge gd ax asl an aa ak al po pr pp pl lx ly lk lw ld)) ([false]) =
    some ([decide (k < len)], (.exit 0, [.n 0, .ws (cells), .rs (rs)])) := by cases f <;> kernel_rfl
theorem h_keys_step (hg : Base T S K G Q l rs pn len k s) (hc : (0 ≤ sl ∧ sl ≤ 11 ∧ 0 ≤ gn ∧ gn ≤ 1073741823) ∧ 0 ≤ a ∧ a < K) : Gone f T S K G Q l c len cells rs pt ph steps pn pc k (roundM sumsS2 60 7 9 2 (SMf f) (h_keys f T S K G Q l c s len k cells rs pt ph steps pn pc th sl gn a cl xw xr xn gh gt gs gw ge gd ax asl an aa ak al po pr pp pl lx ly lk lw ld)) := by
  have hs := hg.row
  have hmn := hg.many
  have hn5 : pn ≤ 100000 := by have := hg.few; omega
  obtain ⟨hR, hkw, hp, hpw, hpl⟩ := base_moreP f hg
  have hm : ∀ k' o, 0 ≤ mat T S K (PK f T S K k rs s) k' o ∧ mat T S K (PK f T S K k rs s) k' o < 18446744073709551616 := fun k' o => mat_word hpw
  have hmW : ∀ k' o, isW (mat T S K (PK f T S K k rs s) k' o) = true := fun k' o => isW_iff.2 (hm k' o)
  have hpos : ∀ k' o, decide (mat T S K (PK f T S K k rs s) k' o > 0) = !(mat T S K (PK f T S K k rs s) k' o == 0) := fun k' o => by
    have := pos_ne (hm k' o).1
    exact this
  have hK0 : decide (0 < K) = true := decide_eq_true (by omega)
  have hsl : decide (0 ≤ sl ∧ sl ≤ 11) = true := decide_eq_true (by omega)
  have hgw : IntKind.i64.wrap (gn + 1) = gn + 1 := by rw [IntKind.wrap_i64]; omega
  have hgn : decide ((0 : Int) ≤ 0 ∧ (0 : Int) ≤ 7 ∧ 0 ≤ gn + 1 ∧ gn + 1 ≤ 1073741824) = true := decide_eq_true (by omega)
  have hno : (IntKind.i64.wrap (a + 1) == -1) = false := by rw [beq_eq_false_iff_ne, IntKind.wrap_i64]; omega
  rcases bool_two (decide (k < len)) with h0 | h0
  · rcases bool_two (dropM (mat T S K (PK f T S K k rs s) (8 : Int) a) sl == mat T S K (PK f T S K k rs s) (8 : Int) a) with h1 | h1
    · rcases bool_two (decide (IntKind.i64.wrap (a + (1 : Int)) < K)) with h2 | h2
      · exact gone_n (get_walk (h_keys_way_1 ..) (by simp only [h0, h1, h2, hsl, hgn, hgw, hno, hmn, hn5, eq_self, and_self, decide_true, hs, hp, alikeB_self, rowB_load, hpl, Bool.not_true, Bool.not_false, Bool.and_self, Bool.true_and, Bool.and_true, cond_false, cond_true, beq_self_eq_true, hmW, stI_ok, x01, hpos, hK0, mload_len, Nat.beq_refl, q_ge, q_le, q_gt, q_ne])) ⟨of_decide_eq_true h0, by rw [hkw]; exact .keys _ _ _ _ _ _ _ _ _ _ _ _ _ _ _ _ _ _ _ _ _ _ _ _ _ _ _ _ _ _ _ (base_nextP (s' := mload T S K (PK f T S K k rs s) (8 : Int) a) hg h0 rfl hpw) (by have := hm (8 : Int) a; first | (simp only [decide_eq_true_eq, decide_eq_false_iff_not, beq_iff_eq, beq_eq_false_iff_ne, ne_eq, IntKind.wrap_i64] at h0 h1 h2 ⊢; omega) | omega)⟩
      · exact gone_n (get_walk (h_keys_way_0 ..) (by simp only [h0, h1, h2, hsl, hgn, hgw, hno, hmn, hn5, eq_self, and_self, decide_true, hs, hp, alikeB_self, rowB_load, hpl, Bool.not_true, Bool.not_false, Bool.and_self, Bool.true_and, Bool.and_true, cond_false, cond_true, beq_self_eq_true, hmW, stI_ok, x01, hpos, hK0, mload_len, Nat.beq_refl, q_ge, q_le, q_gt, q_ne])) ⟨of_decide_eq_true h0, by rw [hkw]; exact .past _ _ _ _ _ _ _ _ _ _ _ _ _ _ _ _ _ _ _ _ _ _ _ _ _ _ _ _ _ _ _ (base_nextP (s' := mload T S K (PK f T S K k rs s) (8 : Int) a) hg h0 rfl hpw) (by have := hm (8 : Int) a; first | (simp only [decide_eq_true_eq, decide_eq_false_iff_not, beq_iff_eq, beq_eq_false_iff_ne, ne_eq, IntKind.wrap_i64] at h0 h1 h2 ⊢; omega) | omega)⟩
    · exact gone_n (get_walk (h_keys_way_2 ..) (by simp only [h0, h1, hsl, hgn, hgw, hno, hmn, hn5, eq_self, and_self, decide_true, hs, hp, alikeB_self, rowB_load, hpl, Bool.not_true, Bool.not_false, Bool.and_self, Bool.true_and, Bool.and_true, cond_false, cond_true, beq_self_eq_true, hmW, stI_ok, x01, hpos, hK0, mload_len, Nat.beq_refl, q_ge, q_le, q_gt, q_ne])) ⟨of_decide_eq_true h0, by rw [hkw]; exact .unmark _ _ _ _ _ _ _ _ _ _ _ _ _ _ _ _ _ _ _ _ _ _ _ _ _ _ _ _ _ _ _ (base_nextP (s' := mload T S K (PK f T S K k rs s) (8 : Int) a) hg h0 rfl hpw) (by have := hm (8 : Int) a; first | (simp only [decide_eq_true_eq, decide_eq_false_iff_not, beq_iff_eq, beq_eq_false_iff_ne, ne_eq, IntKind.wrap_i64] at h0 h1 ⊢; omega) | omega)⟩
  · exact gone_x (get_walk (h_keys_way_3 ..) (by simp only [h0, hsl, hgn, hgw, hno, hmn, hn5, eq_self, and_self, decide_true, hs, hp, alikeB_self, rowB_load, hpl, Bool.not_true, Bool.not_false, Bool.and_self, Bool.true_and, Bool.and_true, cond_false, cond_true, beq_self_eq_true, hmW, stI_ok, x01, hpos, hK0, mload_len, Nat.beq_refl, q_ge, q_le, q_gt, q_ne]))
end Go.Proofs.YtfccbghmagohaaaGreat.Bound
end

section
namespace Go.Proofs.YtfccbghmagohaaaGreat.Bound
open Go.Proofs.YtfccbghmagohaaaGreat.Ev Go.Proofs.YtfccbghmagohaaaGreat.ChartMath
set_option linter.unusedVariables false
set_option linter.unusedSimpArgs false
variable (f : Bool) (T S K G Q : Int) (l c : Nat) (s : MS) (len k : Int) (cells : List Int) (rs : List (List Int)) (pt ph steps : Int) (pn pc : Nat) (th sl gn a : Int) (cl : Bool) (w xr xn gh : Int) (gt : Bool) (gs gw ge : Int) (gd : Bool) (ax asl an aa : Int) (ak al : Bool) (po pr pp : Int) (pl : Bool) (lx ly : Int) (lk : Bool) (lw : Int) (ld : Bool)
theorem h_unmark_way_0 : walk (roundM sumsS2 60 7 9 2 (SMf f) (h_unmark f T S K G Q l c s len k cells rs pt ph steps pn pc th sl gn a cl w xr xn gh gt gs gw ge gd ax asl an aa ak al po pr pp pl lx ly lk lw ld)) (layB f [true] [true] [] [true, true, true, true, false, true, false, false, false, true, true, false, true, true, true, true, true, true, false, false, false, false, false, false, false, false, false, false, false]) =
    some (layB f [decide (k < len)] [rowB T S K G Q l s && (rowB T S K G Q l s && decide (T = T ∧ S = S ∧ K = K ∧ G = G ∧ Q = Q ∧ l = l ∧ l = l ∧ rs.length = pn ∧ pn ≤ (100000 : Nat)))] [] [true, (isW w && decide ((0 : Int) ≤ sl ∧ sl ≤ (11 : Int))), rowB T S K G Q l (PK f T S K k rs s), mok T S K (PK f T S K k rs s) (8 : Int) a w, IntKind.i64.wrap (a + (1 : Int)) == (-1 : Int), !decide (IntKind.i64.wrap (a + (1 : Int)) < K), false, false, false, true, true, false, true, (isW w && decide ((0 : Int) ≤ sl ∧ sl ≤ (11 : Int))), rowB T S K G Q l (PK f T S K k rs s) && l.beq l, mok T S K (PK f T S K k rs s) (8 : Int) a w, decide (IntKind.i64.wrap (a + (1 : Int)) ≥ K), rowB T S K G Q l (mswap T S K (PK f T S K k rs s) (8 : Int) a w (dropM w sl)) && (mswap T S K (PK f T S K k rs s) (8 : Int) a w (dropM w sl)).ws.length.beq l, !alikeB (mswap T S K (PK f T S K k rs s) (8 : Int) a w (dropM w sl)) (mswap T S K (PK f T S K k rs s) (8 : Int) a w (dropM w sl)), false, false, false, false, false, false, false, false, false, false], (.normal, h_past f T S K G Q l c (mswap T S K (PK f T S K k rs s) (8 : Int) a w (dropM w sl)) len (IntKind.i64.wrap (k + (1 : Int))) cells rs pt ph steps pn pc th sl gn cl (IntKind.i64.wrap (a + (1 : Int))) w xr xn gh gt gs gw ge gd ax asl an aa ak al po pr pp pl lx ly lk lw ld)) := by cases f <;> kernel_rfl
theorem h_unmark_way_1 : walk (roundM sumsS2 60 7 9 2 (SMf f) (h_unmark f T S K G Q l c s len k cells rs pt ph steps pn pc th sl gn a cl w xr xn gh gt gs gw ge gd ax asl an aa ak al po pr pp pl lx ly lk lw ld)) (layB f [true] [true] [] [true, true, true, true, false, false, false, false, false, true, true, false, true, true, true, true, false, true, false, false, false, false, false, false, false, false, false, false, false]) =
    some (layB f [decide (k < len)] [rowB T S K G Q l s && (rowB T S K G Q l s && decide (T = T ∧ S = S ∧ K = K ∧ G = G ∧ Q = Q ∧ l = l ∧ l = l ∧ rs.length = pn ∧ pn ≤ (100000 : Nat)))] [] [true, (isW w && decide ((0 : Int) ≤ sl ∧ sl ≤ (11 : Int))), rowB T S K G Q l (PK f T S K k rs s), mok T S K (PK f T S K k rs s) (8 : Int) a w, IntKind.i64.wrap (a + (1 : Int)) == (-1 : Int), !decide (IntKind.i64.wrap (a + (1 : Int)) < K), false, false, false, true, true, false, true, (isW w && decide ((0 : Int) ≤ sl ∧ sl ≤ (11 : Int))), rowB T S K G Q l (PK f T S K k rs s) && l.beq l, mok T S K (PK f T S K k rs s) (8 : Int) a w, decide (IntKind.i64.wrap (a + (1 : Int)) ≥ K), rowB T S K G Q l (mswap T S K (PK f T S K k rs s) (8 : Int) a w (dropM w sl)) && (mswap T S K (PK f T S K k rs s) (8 : Int) a w (dropM w sl)).ws.length.beq l, !alikeB (mswap T S K (PK f T S K k rs s) (8 : Int) a w (dropM w sl)) (mswap T S K (PK f T S K k rs s) (8 : Int) a w (dropM w sl)), false, false, false, false, false, false, false, false, false, false], (.normal, h_keys f T S K G Q l c (mswap T S K (PK f T S K k rs s) (8 : Int) a w (dropM w sl)) len (IntKind.i64.wrap (k + (1 : Int))) cells rs pt ph steps pn pc th sl gn (IntKind.i64.wrap (a + (1 : Int))) cl w xr xn gh gt gs gw ge gd ax asl an aa ak al po pr pp pl lx ly lk lw ld)) := by cases f <;> kernel_rfl
theorem h_unmark_way_2 : walk (roundM sumsS2 60 7 9 2 (SMf f) (h_unmark f T S K G Q l c s len k cells rs pt ph steps pn pc th sl gn a cl w xr xn gh gt gs gw ge gd ax asl an aa ak al po pr pp pl lx ly lk lw ld)) (layB f [true] [true] [] [true, true, true, false, false, false, false, true, true, false, true, true, true, false, true, false, false, false, false, false, false, false, false, false, false, false]) =
    some (layB f [decide (k < len)] [rowB T S K G Q l s && (rowB T S K G Q l s && decide (T = T ∧ S = S ∧ K = K ∧ G = G ∧ Q = Q ∧ l = l ∧ l = l ∧ rs.length = pn ∧ pn ≤ (100000 : Nat)))] [] [true, (isW w && decide ((0 : Int) ≤ sl ∧ sl ≤ (11 : Int))), rowB T S K G Q l (PK f T S K k rs s), mok T S K (PK f T S K k rs s) (8 : Int) a w, false, false, false, true, true, false, true, (isW w && decide ((0 : Int) ≤ sl ∧ sl ≤ (11 : Int))), rowB T S K G Q l (PK f T S K k rs s) && l.beq l, mok T S K (PK f T S K k rs s) (8 : Int) a w, rowB T S K G Q l (mswap T S K (PK f T S K k rs s) (8 : Int) a w (dropM w sl)) && (mswap T S K (PK f T S K k rs s) (8 : Int) a w (dropM w sl)).ws.length.beq l, !alikeB (mswap T S K (PK f T S K k rs s) (8 : Int) a w (dropM w sl)) (mswap T S K (PK f T S K k rs s) (8 : Int) a w (dropM w sl)), false, false, false, false, false, false, false, false, false, false], (.normal, h_keys f T S K G Q l c (mswap T S K (PK f T S K k rs s) (8 : Int) a w (dropM w sl)) len (IntKind.i64.wrap (k + (1 : Int))) cells rs pt ph steps pn pc th sl gn a cl w xr xn gh gt gs gw ge gd ax asl an aa ak al po pr pp pl lx ly lk lw ld)) := by cases f <;> kernel_rfl
theorem h_unmark_way_3 : walk (roundM sumsS2 60 7 9 2 (SMf f) (h_unmark f T S K G Q l c s len k cells rs pt ph steps pn pc th sl gn a cl w xr xn gh gt gs gw ge gd ax asl an aa ak al po pr pp pl lx ly lk lw ld)) ([false]) =
    some ([decide (k < len)], (.exit 0, [.n 0, .ws (cells), .rs (rs)])) := by cases f <;> kernel_rfl
theorem h_unmark_step (hg : Base T S K G Q l rs pn len k s) (hc : (0 ≤ sl ∧ sl ≤ 11 ∧ 0 ≤ gn ∧ gn ≤ 1073741823) ∧ (0 ≤ w ∧ w < 18446744073709551616) ∧ 0 ≤ a ∧ a < K) : Gone f T S K G Q l c len cells rs pt ph steps pn pc k (roundM sumsS2 60 7 9 2 (SMf f) (h_unmark f T S K G Q l c s len k cells rs pt ph steps pn pc th sl gn a cl w xr xn gh gt gs gw ge gd ax asl an aa ak al po pr pp pl lx ly lk lw ld)) := by
  have hs := hg.row
  have hmn := hg.many
  have hn5 : pn ≤ 100000 := by have := hg.few; omega
  obtain ⟨hR, hkw, hp, hpw, hpl⟩ := base_moreP f hg
  have hm : ∀ k' o, 0 ≤ mat T S K (PK f T S K k rs s) k' o ∧ mat T S K (PK f T S K k rs s) k' o < 18446744073709551616 := fun k' o => mat_word hpw
  have hmW : ∀ k' o, isW (mat T S K (PK f T S K k rs s) k' o) = true := fun k' o => isW_iff.2 (hm k' o)
  have hpos : ∀ k' o, decide (mat T S K (PK f T S K k rs s) k' o > 0) = !(mat T S K (PK f T S K k rs s) k' o == 0) := fun k' o => by
    have := pos_ne (hm k' o).1
    exact this
  have hK0 : decide (0 < K) = true := decide_eq_true (by omega)
  have hsl : decide (0 ≤ sl ∧ sl ≤ 11) = true := decide_eq_true (by omega)
  have hgw : IntKind.i64.wrap (gn + 1) = gn + 1 := by rw [IntKind.wrap_i64]; omega
  have hgn : decide ((0 : Int) ≤ 0 ∧ (0 : Int) ≤ 7 ∧ 0 ≤ gn + 1 ∧ gn + 1 ≤ 1073741824) = true := decide_eq_true (by omega)
  have hW_w : isW w = true := isW_iff.2 (by omega)
  have hno : (IntKind.i64.wrap (a + 1) == -1) = false := by rw [beq_eq_false_iff_ne, IntKind.wrap_i64]; omega
  rcases bool_two (decide (k < len)) with h0 | h0
  · rcases bool_two (mok T S K (PK f T S K k rs s) (8 : Int) a w) with h1 | h1
    · rcases bool_two (decide (IntKind.i64.wrap (a + (1 : Int)) < K)) with h2 | h2
      · exact gone_n (get_walk (h_unmark_way_1 ..) (by simp only [h0, h1, h2, rowB_swap, mswap_len, hsl, hgn, hgw, hW_w, hno, hmn, hn5, eq_self, and_self, decide_true, hs, hp, alikeB_self, rowB_load, hpl, Bool.not_true, Bool.not_false, Bool.and_self, Bool.true_and, Bool.and_true, cond_false, cond_true, beq_self_eq_true, hmW, stI_ok, x01, hpos, hK0, mload_len, Nat.beq_refl, q_ge, q_le, q_gt, q_ne])) ⟨of_decide_eq_true h0, by rw [hkw]; (try simp only [h1]); exact .keys _ _ _ _ _ _ _ _ _ _ _ _ _ _ _ _ _ _ _ _ _ _ _ _ _ _ _ _ _ _ _ (base_nextP hg h0 rowB_swap (mwords_swap (v := (dropM w sl)) hpw (by exact dropM_word (by omega) (by omega) (by omega) (by omega)))) (by first | (simp only [decide_eq_true_eq, decide_eq_false_iff_not, beq_iff_eq, beq_eq_false_iff_ne, ne_eq, IntKind.wrap_i64] at h0 h1 h2 ⊢; omega) | omega)⟩
      · exact gone_n (get_walk (h_unmark_way_0 ..) (by simp only [h0, h1, h2, rowB_swap, mswap_len, hsl, hgn, hgw, hW_w, hno, hmn, hn5, eq_self, and_self, decide_true, hs, hp, alikeB_self, rowB_load, hpl, Bool.not_true, Bool.not_false, Bool.and_self, Bool.true_and, Bool.and_true, cond_false, cond_true, beq_self_eq_true, hmW, stI_ok, x01, hpos, hK0, mload_len, Nat.beq_refl, q_ge, q_le, q_gt, q_ne])) ⟨of_decide_eq_true h0, by rw [hkw]; (try simp only [h1]); exact .past _ _ _ _ _ _ _ _ _ _ _ _ _ _ _ _ _ _ _ _ _ _ _ _ _ _ _ _ _ _ _ (base_nextP hg h0 rowB_swap (mwords_swap (v := (dropM w sl)) hpw (by exact dropM_word (by omega) (by omega) (by omega) (by omega)))) (by first | (simp only [decide_eq_true_eq, decide_eq_false_iff_not, beq_iff_eq, beq_eq_false_iff_ne, ne_eq, IntKind.wrap_i64] at h0 h1 h2 ⊢; omega) | omega)⟩
    · exact gone_n (get_walk (h_unmark_way_2 ..) (by simp only [h0, h1, rowB_swap, mswap_len, hsl, hgn, hgw, hW_w, hno, hmn, hn5, eq_self, and_self, decide_true, hs, hp, alikeB_self, rowB_load, hpl, Bool.not_true, Bool.not_false, Bool.and_self, Bool.true_and, Bool.and_true, cond_false, cond_true, beq_self_eq_true, hmW, stI_ok, x01, hpos, hK0, mload_len, Nat.beq_refl, q_ge, q_le, q_gt, q_ne])) ⟨of_decide_eq_true h0, by rw [hkw]; (try simp only [h1]); exact .keys _ _ _ _ _ _ _ _ _ _ _ _ _ _ _ _ _ _ _ _ _ _ _ _ _ _ _ _ _ _ _ (base_nextP hg h0 rowB_swap (mwords_swap (v := (dropM w sl)) hpw (by exact dropM_word (by omega) (by omega) (by omega) (by omega)))) (by first | (simp only [decide_eq_true_eq, decide_eq_false_iff_not, beq_iff_eq, beq_eq_false_iff_ne, ne_eq, IntKind.wrap_i64] at h0 h1 ⊢; omega) | omega)⟩
  · exact gone_x (get_walk (h_unmark_way_3 ..) (by simp only [h0, rowB_swap, mswap_len, hsl, hgn, hgw, hW_w, hno, hmn, hn5, eq_self, and_self, decide_true, hs, hp, alikeB_self, rowB_load, hpl, Bool.not_true, Bool.not_false, Bool.and_self, Bool.true_and, Bool.and_true, cond_false, cond_true, beq_self_eq_true, hmW, stI_ok, x01, hpos, hK0, mload_len, Nat.beq_refl, q_ge, q_le, q_gt, q_ne]))
end Go.Proofs.YtfccbghmagohaaaGreat.Bound
end

section
namespace Go.Proofs.YtfccbghmagohaaaGreat.Bound
open Go.Proofs.YtfccbghmagohaaaGreat.Ev Go.Proofs.YtfccbghmagohaaaGreat.ChartMath
set_option linter.unusedVariables false
set_option linter.unusedSimpArgs false
variable (f : Bool) (T S K G Q : Int) (l c : Nat) (s : MS) (len k : Int) (cells : List Int) (rs : List (List Int)) (pt ph steps : Int) (pn pc : Nat) (th sl gn : Int) (cl : Bool) (xat xw xr xn gh : Int) (gt : Bool) (gs gw ge : Int) (gd : Bool) (ax asl an aa : Int) (ak al : Bool) (po pr pp : Int) (pl : Bool) (lx ly : Int) (lk : Bool) (lw : Int) (ld : Bool)
theorem h_close_way_0 : walk (roundM sumsS2 60 7 9 2 (SMf f) (h_close f T S K G Q l c s len k cells rs pt ph steps pn pc th sl gn cl xat xw xr xn gh gt gs gw ge gd ax asl an aa ak al po pr pp pl lx ly lk lw ld)) (layB f [true] [true] [] [true, true, false, false, false, false, false, false, false, true, true, true, false, false, false, false, false, false, false, false, false, false, false]) =
    some (layB f [decide (k < len)] [rowB T S K G Q l s && (rowB T S K G Q l s && decide (T = T ∧ S = S ∧ K = K ∧ G = G ∧ Q = Q ∧ l = l ∧ l = l ∧ rs.length = pn ∧ pn ≤ (100000 : Nat)))] [] [true, rowB T S K G Q l (PK f T S K k rs s), false, false, false, false, false, false, false, true, rowB T S K G Q l (PK f T S K k rs s), rowB T S K G Q l (mload T S K (PK f T S K k rs s) (4 : Int) sl) && (PK f T S K k rs s).ws.length.beq l, !alikeB (mload T S K (PK f T S K k rs s) (4 : Int) sl) (mload T S K (PK f T S K k rs s) (4 : Int) sl), false, false, false, false, false, false, false, false, false, false], (.normal, h_closed f T S K G Q l c (mload T S K (PK f T S K k rs s) (4 : Int) sl) len (IntKind.i64.wrap (k + (1 : Int))) cells rs pt ph steps pn pc th sl gn cl (mat T S K (PK f T S K k rs s) (4 : Int) sl) xat xr xn gh gt gs gw ge gd ax asl an aa ak al po pr pp pl lx ly lk lw ld)) := by cases f <;> kernel_rfl
theorem h_close_way_1 : walk (roundM sumsS2 60 7 9 2 (SMf f) (h_close f T S K G Q l c s len k cells rs pt ph steps pn pc th sl gn cl xat xw xr xn gh gt gs gw ge gd ax asl an aa ak al po pr pp pl lx ly lk lw ld)) ([false]) =
    some ([decide (k < len)], (.exit 0, [.n 0, .ws (cells), .rs (rs)])) := by cases f <;> kernel_rfl
theorem h_close_step (hg : Base T S K G Q l rs pn len k s) (hc : (0 ≤ sl ∧ sl ≤ 11 ∧ 0 ≤ gn ∧ gn ≤ 1073741823)) : Gone f T S K G Q l c len cells rs pt ph steps pn pc k (roundM sumsS2 60 7 9 2 (SMf f) (h_close f T S K G Q l c s len k cells rs pt ph steps pn pc th sl gn cl xat xw xr xn gh gt gs gw ge gd ax asl an aa ak al po pr pp pl lx ly lk lw ld)) := by
  have hs := hg.row
  have hmn := hg.many
  have hn5 : pn ≤ 100000 := by have := hg.few; omega
  obtain ⟨hR, hkw, hp, hpw, hpl⟩ := base_moreP f hg
  have hm : ∀ k' o, 0 ≤ mat T S K (PK f T S K k rs s) k' o ∧ mat T S K (PK f T S K k rs s) k' o < 18446744073709551616 := fun k' o => mat_word hpw
  have hmW : ∀ k' o, isW (mat T S K (PK f T S K k rs s) k' o) = true := fun k' o => isW_iff.2 (hm k' o)
  have hpos : ∀ k' o, decide (mat T S K (PK f T S K k rs s) k' o > 0) = !(mat T S K (PK f T S K k rs s) k' o == 0) := fun k' o => by
    have := pos_ne (hm k' o).1
    exact this
  have hK0 : decide (0 < K) = true := decide_eq_true (by omega)
  have hsl : decide (0 ≤ sl ∧ sl ≤ 11) = true := decide_eq_true (by omega)
  have hgw : IntKind.i64.wrap (gn + 1) = gn + 1 := by rw [IntKind.wrap_i64]; omega
  have hgn : decide ((0 : Int) ≤ 0 ∧ (0 : Int) ≤ 7 ∧ 0 ≤ gn + 1 ∧ gn + 1 ≤ 1073741824) = true := decide_eq_true (by omega)
  rcases bool_two (decide (k < len)) with h0 | h0
  · exact gone_n (get_walk (h_close_way_0 ..) (by simp only [h0, hsl, hgn, hgw, hmn, hn5, eq_self, and_self, decide_true, hs, hp, alikeB_self, rowB_load, hpl, Bool.not_true, Bool.not_false, Bool.and_self, Bool.true_and, Bool.and_true, cond_false, cond_true, beq_self_eq_true, hmW, stI_ok, x01, hpos, hK0, mload_len, Nat.beq_refl, q_ge, q_le, q_gt, q_ne])) ⟨of_decide_eq_true h0, by rw [hkw]; exact .closed _ _ _ _ _ _ _ _ _ _ _ _ _ _ _ _ _ _ _ _ _ _ _ _ _ _ _ _ _ _ _ (base_nextP (s' := mload T S K (PK f T S K k rs s) (4 : Int) sl) hg h0 rfl hpw) (by have := hm (4 : Int) sl; first | (simp only [decide_eq_true_eq, decide_eq_false_iff_not, beq_iff_eq, beq_eq_false_iff_ne, ne_eq, IntKind.wrap_i64] at h0 ⊢; omega) | omega)⟩
  · exact gone_x (get_walk (h_close_way_1 ..) (by simp only [h0, hsl, hgn, hgw, hmn, hn5, eq_self, and_self, decide_true, hs, hp, alikeB_self, rowB_load, hpl, Bool.not_true, Bool.not_false, Bool.and_self, Bool.true_and, Bool.and_true, cond_false, cond_true, beq_self_eq_true, hmW, stI_ok, x01, hpos, hK0, mload_len, Nat.beq_refl, q_ge, q_le, q_gt, q_ne]))
end Go.Proofs.YtfccbghmagohaaaGreat.Bound
end

section
namespace Go.Proofs.YtfccbghmagohaaaGreat.Bound
open Go.Proofs.YtfccbghmagohaaaGreat.Ev Go.Proofs.YtfccbghmagohaaaGreat.ChartMath
set_option linter.unusedVariables false
set_option linter.unusedSimpArgs false
variable (f : Bool) (T S K G Q : Int) (l c : Nat) (s : MS) (len k : Int) (cells : List Int) (rs : List (List Int)) (pt ph steps : Int) (pn pc : Nat) (th sl gn : Int) (cl : Bool) (w xat xr xn gh : Int) (gt : Bool) (gs gw ge : Int) (gd : Bool) (ax asl an aa : Int) (ak al : Bool) (po pr pp : Int) (pl : Bool) (lx ly : Int) (lk : Bool) (lw : Int) (ld : Bool)
theorem h_closed_way_0 : walk (roundM sumsS2 60 7 9 2 (SMf f) (h_closed f T S K G Q l c s len k cells rs pt ph steps pn pc th sl gn cl w xat xr xn gh gt gs gw ge gd ax asl an aa ak al po pr pp pl lx ly lk lw ld)) (layB f [true] [true] [] [true, true, true, true, false, false, false, false, false, false, false, false, true, true, true, true, true, false, false, false, false, false, false, false, false, false, false, false]) =
    some (layB f [decide (k < len)] [rowB T S K G Q l s && (rowB T S K G Q l s && decide (T = T ∧ S = S ∧ K = K ∧ G = G ∧ Q = Q ∧ l = l ∧ l = l ∧ rs.length = pn ∧ pn ≤ (100000 : Nat)))] [] [true, (isW w), rowB T S K G Q l (PK f T S K k rs s), mok T S K (PK f T S K k rs s) (4 : Int) sl w, false, false, false, false, false, false, false, false, true, (isW w && decide ((0 : Int) ≤ (7 : Int) ∧ (7 : Int) ≤ (7 : Int))), rowB T S K G Q l (PK f T S K k rs s) && l.beq l, mok T S K (PK f T S K k rs s) (4 : Int) sl w, rowB T S K G Q l (mswap T S K (PK f T S K k rs s) (4 : Int) sl w (moveI w (7 : Int) true)) && (mswap T S K (PK f T S K k rs s) (4 : Int) sl w (moveI w (7 : Int) true)).ws.length.beq l, !alikeB (mswap T S K (PK f T S K k rs s) (4 : Int) sl w (moveI w (7 : Int) true)) (mswap T S K (PK f T S K k rs s) (4 : Int) sl w (moveI w (7 : Int) true)), false, false, false, false, false, false, false, false, false, false], (.normal, h_tick f T S K G Q l c (mswap T S K (PK f T S K k rs s) (4 : Int) sl w (moveI w (7 : Int) true)) len (IntKind.i64.wrap (k + (1 : Int))) cells rs pt ph steps pn pc th sl gn true xat w xr xn gh gt gs gw ge gd ax asl an aa ak al po pr pp pl lx ly lk lw ld)) := by cases f <;> kernel_rfl
theorem h_closed_way_1 : walk (roundM sumsS2 60 7 9 2 (SMf f) (h_closed f T S K G Q l c s len k cells rs pt ph steps pn pc th sl gn cl w xat xr xn gh gt gs gw ge gd ax asl an aa ak al po pr pp pl lx ly lk lw ld)) (layB f [true] [true] [] [true, true, true, false, false, false, false, false, false, false, false, false, true, true, true, false, true, false, false, false, false, false, false, false, false, false, false, false]) =
    some (layB f [decide (k < len)] [rowB T S K G Q l s && (rowB T S K G Q l s && decide (T = T ∧ S = S ∧ K = K ∧ G = G ∧ Q = Q ∧ l = l ∧ l = l ∧ rs.length = pn ∧ pn ≤ (100000 : Nat)))] [] [true, (isW w), rowB T S K G Q l (PK f T S K k rs s), mok T S K (PK f T S K k rs s) (4 : Int) sl w, false, false, false, false, false, false, false, false, true, (isW w && decide ((0 : Int) ≤ (7 : Int) ∧ (7 : Int) ≤ (7 : Int))), rowB T S K G Q l (PK f T S K k rs s) && l.beq l, mok T S K (PK f T S K k rs s) (4 : Int) sl w, rowB T S K G Q l (mswap T S K (PK f T S K k rs s) (4 : Int) sl w (moveI w (7 : Int) true)) && (mswap T S K (PK f T S K k rs s) (4 : Int) sl w (moveI w (7 : Int) true)).ws.length.beq l, !alikeB (mswap T S K (PK f T S K k rs s) (4 : Int) sl w (moveI w (7 : Int) true)) (mswap T S K (PK f T S K k rs s) (4 : Int) sl w (moveI w (7 : Int) true)), false, false, false, false, false, false, false, false, false, false], (.normal, h_close f T S K G Q l c (mswap T S K (PK f T S K k rs s) (4 : Int) sl w (moveI w (7 : Int) true)) len (IntKind.i64.wrap (k + (1 : Int))) cells rs pt ph steps pn pc th sl gn cl xat w xr xn gh gt gs gw ge gd ax asl an aa ak al po pr pp pl lx ly lk lw ld)) := by cases f <;> kernel_rfl
theorem h_closed_way_2 : walk (roundM sumsS2 60 7 9 2 (SMf f) (h_closed f T S K G Q l c s len k cells rs pt ph steps pn pc th sl gn cl w xat xr xn gh gt gs gw ge gd ax asl an aa ak al po pr pp pl lx ly lk lw ld)) ([false]) =
    some ([decide (k < len)], (.exit 0, [.n 0, .ws (cells), .rs (rs)])) := by cases f <;> kernel_rfl
theorem h_closed_step (hg : Base T S K G Q l rs pn len k s) (hc : (0 ≤ sl ∧ sl ≤ 11 ∧ 0 ≤ gn ∧ gn ≤ 1073741823) ∧ (0 ≤ w ∧ w < 18446744073709551616)) : Gone f T S K G Q l c len cells rs pt ph steps pn pc k (roundM sumsS2 60 7 9 2 (SMf f) (h_closed f T S K G Q l c s len k cells rs pt ph steps pn pc th sl gn cl w xat xr xn gh gt gs gw ge gd ax asl an aa ak al po pr pp pl lx ly lk lw ld)) := by
  have hs := hg.row
  have hmn := hg.many
  have hn5 : pn ≤ 100000 := by have := hg.few; omega
  obtain ⟨hR, hkw, hp, hpw, hpl⟩ := base_moreP f hg
  have hm : ∀ k' o, 0 ≤ mat T S K (PK f T S K k rs s) k' o ∧ mat T S K (PK f T S K k rs s) k' o < 18446744073709551616 := fun k' o => mat_word hpw
  have hmW : ∀ k' o, isW (mat T S K (PK f T S K k rs s) k' o) = true := fun k' o => isW_iff.2 (hm k' o)
  have hpos : ∀ k' o, decide (mat T S K (PK f T S K k rs s) k' o > 0) = !(mat T S K (PK f T S K k rs s) k' o == 0) := fun k' o => by
    have := pos_ne (hm k' o).1
    exact this
  have hK0 : decide (0 < K) = true := decide_eq_true (by omega)
  have hsl : decide (0 ≤ sl ∧ sl ≤ 11) = true := decide_eq_true (by omega)
  have hgw : IntKind.i64.wrap (gn + 1) = gn + 1 := by rw [IntKind.wrap_i64]; omega
  have hgn : decide ((0 : Int) ≤ 0 ∧ (0 : Int) ≤ 7 ∧ 0 ≤ gn + 1 ∧ gn + 1 ≤ 1073741824) = true := decide_eq_true (by omega)
  have hW_w : isW w = true := isW_iff.2 (by omega)
  rcases bool_two (decide (k < len)) with h0 | h0
  · rcases bool_two (mok T S K (PK f T S K k rs s) (4 : Int) sl w) with h1 | h1
    · exact gone_n (get_walk (h_closed_way_0 ..) (by simp only [h0, h1, hd7, rowB_swap, mswap_len, hsl, hgn, hgw, hW_w, hmn, hn5, eq_self, and_self, decide_true, hs, hp, alikeB_self, rowB_load, hpl, Bool.not_true, Bool.not_false, Bool.and_self, Bool.true_and, Bool.and_true, cond_false, cond_true, beq_self_eq_true, hmW, stI_ok, x01, hpos, hK0, mload_len, Nat.beq_refl, q_ge, q_le, q_gt, q_ne])) ⟨of_decide_eq_true h0, by rw [hkw]; (try simp only [h1]); exact .tick _ _ _ _ _ _ _ _ _ _ _ _ _ _ _ _ _ _ _ _ _ _ _ _ _ _ _ _ _ _ _ (base_nextP hg h0 rowB_swap (mwords_swap (v := (moveI w (7 : Int) true)) hpw (by exact moveI_word true (by omega) (by omega)))) (by first | (simp only [decide_eq_true_eq, decide_eq_false_iff_not, beq_iff_eq, beq_eq_false_iff_ne, ne_eq, IntKind.wrap_i64] at h0 h1 ⊢; omega) | omega)⟩
    · exact gone_n (get_walk (h_closed_way_1 ..) (by simp only [h0, h1, hd7, rowB_swap, mswap_len, hsl, hgn, hgw, hW_w, hmn, hn5, eq_self, and_self, decide_true, hs, hp, alikeB_self, rowB_load, hpl, Bool.not_true, Bool.not_false, Bool.and_self, Bool.true_and, Bool.and_true, cond_false, cond_true, beq_self_eq_true, hmW, stI_ok, x01, hpos, hK0, mload_len, Nat.beq_refl, q_ge, q_le, q_gt, q_ne])) ⟨of_decide_eq_true h0, by rw [hkw]; (try simp only [h1]); exact .close _ _ _ _ _ _ _ _ _ _ _ _ _ _ _ _ _ _ _ _ _ _ _ _ _ _ _ _ _ _ _ (base_nextP hg h0 rowB_swap (mwords_swap (v := (moveI w (7 : Int) true)) hpw (by exact moveI_word true (by omega) (by omega)))) (by first | (simp only [decide_eq_true_eq, decide_eq_false_iff_not, beq_iff_eq, beq_eq_false_iff_ne, ne_eq, IntKind.wrap_i64] at h0 h1 ⊢; omega) | omega)⟩
  · exact gone_x (get_walk (h_closed_way_2 ..) (by simp only [h0, hd7, rowB_swap, mswap_len, hsl, hgn, hgw, hW_w, hmn, hn5, eq_self, and_self, decide_true, hs, hp, alikeB_self, rowB_load, hpl, Bool.not_true, Bool.not_false, Bool.and_self, Bool.true_and, Bool.and_true, cond_false, cond_true, beq_self_eq_true, hmW, stI_ok, x01, hpos, hK0, mload_len, Nat.beq_refl, q_ge, q_le, q_gt, q_ne]))
end Go.Proofs.YtfccbghmagohaaaGreat.Bound
end

section
namespace Go.Proofs.YtfccbghmagohaaaGreat.Bound
open Go.Proofs.YtfccbghmagohaaaGreat.Ev Go.Proofs.YtfccbghmagohaaaGreat.ChartMath
set_option linter.unusedVariables false
set_option linter.unusedSimpArgs false
variable (f : Bool) (T S K G Q : Int) (l c : Nat) (s : MS) (len k : Int) (cells : List Int) (rs : List (List Int)) (pt ph steps : Int) (pn pc : Nat) (th sl gn : Int) (cl : Bool) (xat xw xr xn gh : Int) (gt : Bool) (gs gw ge : Int) (gd : Bool) (ax asl an aa : Int) (ak al : Bool) (po pr pp : Int) (pl : Bool) (lx ly : Int) (lk : Bool) (lw : Int) (ld : Bool)
theorem h_nought_way_0 : walk (roundM sumsS2 60 7 9 2 (SMf f) (h_nought f T S K G Q l c s len k cells rs pt ph steps pn pc th sl gn cl xat xw xr xn gh gt gs gw ge gd ax asl an aa ak al po pr pp pl lx ly lk lw ld)) (layB f [true] [true] [] [true, true, false, false, false, false, false, false, false, false, false, true, true, true, false, false, false, false, false, false, false, false, false, false, false]) =
    some (layB f [decide (k < len)] [rowB T S K G Q l s && (rowB T S K G Q l s && decide (T = T ∧ S = S ∧ K = K ∧ G = G ∧ Q = Q ∧ l = l ∧ l = l ∧ rs.length = pn ∧ pn ≤ (100000 : Nat)))] [] [true, rowB T S K G Q l (PK f T S K k rs s), false, false, false, false, false, false, false, false, false, true, rowB T S K G Q l (PK f T S K k rs s) && l.beq l, rowB T S K G Q l (mstore T S K (PK f T S K k rs s) (6 : Int) sl (0 : Int)) && (mstore T S K (PK f T S K k rs s) (6 : Int) sl (0 : Int)).ws.length.beq l, !alikeB (mstore T S K (PK f T S K k rs s) (6 : Int) sl (0 : Int)) (mstore T S K (PK f T S K k rs s) (6 : Int) sl (0 : Int)), false, false, false, false, false, false, false, false, false, false], (.normal, h_free f T S K G Q l c (mstore T S K (PK f T S K k rs s) (6 : Int) sl (0 : Int)) len (IntKind.i64.wrap (k + (1 : Int))) cells rs pt ph steps pn pc th sl gn cl xat xw xr xn gh gt gs gw ge gd ax asl an aa ak al po pr pp pl lx ly lk lw ld)) := by cases f <;> kernel_rfl
theorem h_nought_way_1 : walk (roundM sumsS2 60 7 9 2 (SMf f) (h_nought f T S K G Q l c s len k cells rs pt ph steps pn pc th sl gn cl xat xw xr xn gh gt gs gw ge gd ax asl an aa ak al po pr pp pl lx ly lk lw ld)) ([false]) =
    some ([decide (k < len)], (.exit 0, [.n 0, .ws (cells), .rs (rs)])) := by cases f <;> kernel_rfl
theorem h_nought_step (hg : Base T S K G Q l rs pn len k s) (hc : (0 ≤ sl ∧ sl ≤ 11 ∧ 0 ≤ gn ∧ gn ≤ 1073741823)) : Gone f T S K G Q l c len cells rs pt ph steps pn pc k (roundM sumsS2 60 7 9 2 (SMf f) (h_nought f T S K G Q l c s len k cells rs pt ph steps pn pc th sl gn cl xat xw xr xn gh gt gs gw ge gd ax asl an aa ak al po pr pp pl lx ly lk lw ld)) := by
  have hs := hg.row
  have hmn := hg.many
  have hn5 : pn ≤ 100000 := by have := hg.few; omega
  obtain ⟨hR, hkw, hp, hpw, hpl⟩ := base_moreP f hg
  have hm : ∀ k' o, 0 ≤ mat T S K (PK f T S K k rs s) k' o ∧ mat T S K (PK f T S K k rs s) k' o < 18446744073709551616 := fun k' o => mat_word hpw
  have hmW : ∀ k' o, isW (mat T S K (PK f T S K k rs s) k' o) = true := fun k' o => isW_iff.2 (hm k' o)
  have hpos : ∀ k' o, decide (mat T S K (PK f T S K k rs s) k' o > 0) = !(mat T S K (PK f T S K k rs s) k' o == 0) := fun k' o => by
    have := pos_ne (hm k' o).1
    exact this
  have hK0 : decide (0 < K) = true := decide_eq_true (by omega)
  have hsl : decide (0 ≤ sl ∧ sl ≤ 11) = true := decide_eq_true (by omega)
  have hgw : IntKind.i64.wrap (gn + 1) = gn + 1 := by rw [IntKind.wrap_i64]; omega
  have hgn : decide ((0 : Int) ≤ 0 ∧ (0 : Int) ≤ 7 ∧ 0 ≤ gn + 1 ∧ gn + 1 ≤ 1073741824) = true := decide_eq_true (by omega)
  rcases bool_two (decide (k < len)) with h0 | h0
  · exact gone_n (get_walk (h_nought_way_0 ..) (by simp only [h0, rowB_store, mstore_len, hsl, hgn, hgw, hmn, hn5, eq_self, and_self, decide_true, hs, hp, alikeB_self, rowB_load, hpl, Bool.not_true, Bool.not_false, Bool.and_self, Bool.true_and, Bool.and_true, cond_false, cond_true, beq_self_eq_true, hmW, stI_ok, x01, hpos, hK0, mload_len, Nat.beq_refl, q_ge, q_le, q_gt, q_ne])) ⟨of_decide_eq_true h0, by rw [hkw]; exact .free _ _ _ _ _ _ _ _ _ _ _ _ _ _ _ _ _ _ _ _ _ _ _ _ _ _ _ _ _ _ _ (base_nextP hg h0 rowB_store (mwords_store (v := (0 : Int)) hpw (by omega))) (by first | (simp only [decide_eq_true_eq, decide_eq_false_iff_not, beq_iff_eq, beq_eq_false_iff_ne, ne_eq, IntKind.wrap_i64] at h0 ⊢; omega) | omega)⟩
  · exact gone_x (get_walk (h_nought_way_1 ..) (by simp only [h0, rowB_store, mstore_len, hsl, hgn, hgw, hmn, hn5, eq_self, and_self, decide_true, hs, hp, alikeB_self, rowB_load, hpl, Bool.not_true, Bool.not_false, Bool.and_self, Bool.true_and, Bool.and_true, cond_false, cond_true, beq_self_eq_true, hmW, stI_ok, x01, hpos, hK0, mload_len, Nat.beq_refl, q_ge, q_le, q_gt, q_ne]))
end Go.Proofs.YtfccbghmagohaaaGreat.Bound
end

section
namespace Go.Proofs.YtfccbghmagohaaaGreat.Bound
open Go.Proofs.YtfccbghmagohaaaGreat.Ev Go.Proofs.YtfccbghmagohaaaGreat.ChartMath
set_option linter.unusedVariables false
set_option linter.unusedSimpArgs false
variable (f : Bool) (T S K G Q : Int) (l c : Nat) (s : MS) (len k : Int) (cells : List Int) (rs : List (List Int)) (pt ph steps : Int) (pn pc : Nat) (th sl gn : Int) (cl : Bool) (xat xw xr xn gh : Int) (gt : Bool) (gs gw ge : Int) (gd : Bool) (ax asl an aa : Int) (ak al : Bool) (po pr pp : Int) (pl : Bool) (lx ly : Int) (lk : Bool) (lw : Int) (ld : Bool)
theorem h_free_way_0 : walk (roundM sumsS2 60 7 9 2 (SMf f) (h_free f T S K G Q l c s len k cells rs pt ph steps pn pc th sl gn cl xat xw xr xn gh gt gs gw ge gd ax asl an aa ak al po pr pp pl lx ly lk lw ld)) (layB f [true] [true] [] [true, true, true, false, false, false, false, false, false, false, false, false, false, true, true, true, true, false, false, false, false, false, false, false, false, false, false, false]) =
    some (layB f [decide (k < len)] [rowB T S K G Q l s && (rowB T S K G Q l s && decide (T = T ∧ S = S ∧ K = K ∧ G = G ∧ Q = Q ∧ l = l ∧ l = l ∧ rs.length = pn ∧ pn ≤ (100000 : Nat)))] [] [true, (decide ((0 : Int) ≤ (0 : Int) ∧ (0 : Int) ≤ (7 : Int) ∧ (0 : Int) ≤ IntKind.i64.wrap (gn + (1 : Int)) ∧ IntKind.i64.wrap (gn + (1 : Int)) ≤ (1073741824 : Int))), rowB T S K G Q l (PK f T S K k rs s), false, false, false, false, false, false, false, false, false, false, true, (decide ((0 : Int) ≤ (0 : Int) ∧ (0 : Int) ≤ (7 : Int) ∧ (0 : Int) ≤ IntKind.i64.wrap (gn + (1 : Int)) ∧ IntKind.i64.wrap (gn + (1 : Int)) ≤ (1073741824 : Int))), rowB T S K G Q l (PK f T S K k rs s) && l.beq l, rowB T S K G Q l (mstore T S K (PK f T S K k rs s) (4 : Int) sl (newI (0 : Int) (IntKind.i64.wrap (gn + (1 : Int))))) && (mstore T S K (PK f T S K k rs s) (4 : Int) sl (newI (0 : Int) (IntKind.i64.wrap (gn + (1 : Int))))).ws.length.beq l, !alikeB (mstore T S K (PK f T S K k rs s) (4 : Int) sl (newI (0 : Int) (IntKind.i64.wrap (gn + (1 : Int))))) (mstore T S K (PK f T S K k rs s) (4 : Int) sl (newI (0 : Int) (IntKind.i64.wrap (gn + (1 : Int))))), false, false, false, false, false, false, false, false, false, false], (.normal, h_done f T S K G Q l c (mstore T S K (PK f T S K k rs s) (4 : Int) sl (newI (0 : Int) (IntKind.i64.wrap (gn + (1 : Int))))) len (IntKind.i64.wrap (k + (1 : Int))) cells rs pt ph steps pn pc 0 th sl gn 17 xat cl xw xr xn gh gt gs gw ge gd ax asl an aa ak al po pr pp pl lx ly lk lw ld)) := by cases f <;> kernel_rfl
theorem h_free_way_1 : walk (roundM sumsS2 60 7 9 2 (SMf f) (h_free f T S K G Q l c s len k cells rs pt ph steps pn pc th sl gn cl xat xw xr xn gh gt gs gw ge gd ax asl an aa ak al po pr pp pl lx ly lk lw ld)) ([false]) =
    some ([decide (k < len)], (.exit 0, [.n 0, .ws (cells), .rs (rs)])) := by cases f <;> kernel_rfl
theorem h_free_step (hg : Base T S K G Q l rs pn len k s) (hc : (0 ≤ sl ∧ sl ≤ 11 ∧ 0 ≤ gn ∧ gn ≤ 1073741823)) : Gone f T S K G Q l c len cells rs pt ph steps pn pc k (roundM sumsS2 60 7 9 2 (SMf f) (h_free f T S K G Q l c s len k cells rs pt ph steps pn pc th sl gn cl xat xw xr xn gh gt gs gw ge gd ax asl an aa ak al po pr pp pl lx ly lk lw ld)) := by
  have hs := hg.row
  have hmn := hg.many
  have hn5 : pn ≤ 100000 := by have := hg.few; omega
  obtain ⟨hR, hkw, hp, hpw, hpl⟩ := base_moreP f hg
  have hm : ∀ k' o, 0 ≤ mat T S K (PK f T S K k rs s) k' o ∧ mat T S K (PK f T S K k rs s) k' o < 18446744073709551616 := fun k' o => mat_word hpw
  have hmW : ∀ k' o, isW (mat T S K (PK f T S K k rs s) k' o) = true := fun k' o => isW_iff.2 (hm k' o)
  have hpos : ∀ k' o, decide (mat T S K (PK f T S K k rs s) k' o > 0) = !(mat T S K (PK f T S K k rs s) k' o == 0) := fun k' o => by
    have := pos_ne (hm k' o).1
    exact this
  have hK0 : decide (0 < K) = true := decide_eq_true (by omega)
  have hsl : decide (0 ≤ sl ∧ sl ≤ 11) = true := decide_eq_true (by omega)
  have hgw : IntKind.i64.wrap (gn + 1) = gn + 1 := by rw [IntKind.wrap_i64]; omega
  have hgn : decide ((0 : Int) ≤ 0 ∧ (0 : Int) ≤ 7 ∧ 0 ≤ gn + 1 ∧ gn + 1 ≤ 1073741824) = true := decide_eq_true (by omega)
  rcases bool_two (decide (k < len)) with h0 | h0
  · exact gone_n (get_walk (h_free_way_0 ..) (by simp only [h0, rowB_store, mstore_len, hsl, hgn, hgw, hmn, hn5, eq_self, and_self, decide_true, hs, hp, alikeB_self, rowB_load, hpl, Bool.not_true, Bool.not_false, Bool.and_self, Bool.true_and, Bool.and_true, cond_false, cond_true, beq_self_eq_true, hmW, stI_ok, x01, hpos, hK0, mload_len, Nat.beq_refl, q_ge, q_le, q_gt, q_ne])) ⟨of_decide_eq_true h0, by rw [hkw]; exact .done _ _ _ _ _ _ _ _ _ _ _ _ _ _ _ _ _ _ _ _ _ _ _ _ _ _ _ _ _ _ _ _ _ (base_nextP hg h0 rowB_store (mwords_store (v := (newI (0 : Int) (IntKind.i64.wrap (gn + (1 : Int))))) hpw (by rw [hgw]; exact newI_word (by omega) (by omega) (by omega) (by omega))))⟩
  · exact gone_x (get_walk (h_free_way_1 ..) (by simp only [h0, rowB_store, mstore_len, hsl, hgn, hgw, hmn, hn5, eq_self, and_self, decide_true, hs, hp, alikeB_self, rowB_load, hpl, Bool.not_true, Bool.not_false, Bool.and_self, Bool.true_and, Bool.and_true, cond_false, cond_true, beq_self_eq_true, hmW, stI_ok, x01, hpos, hK0, mload_len, Nat.beq_refl, q_ge, q_le, q_gt, q_ne]))
end Go.Proofs.YtfccbghmagohaaaGreat.Bound
end

section
namespace Go.Proofs.YtfccbghmagohaaaGreat.Bound
open Go.Proofs.YtfccbghmagohaaaGreat.Ev Go.Proofs.YtfccbghmagohaaaGreat.ChartMath
set_option linter.unusedVariables false
set_option linter.unusedSimpArgs false
variable (f : Bool) (T S K G Q : Int) (l c : Nat) (s : MS) (len k : Int) (cells : List Int) (rs : List (List Int)) (pt ph steps : Int) (pn pc : Nat) (no th sl gn nx xat : Int) (cl : Bool) (xw xr xn gh : Int) (gt : Bool) (gs gw ge : Int) (gd : Bool) (ax asl an aa : Int) (ak al : Bool) (po pr pp : Int) (pl : Bool) (lx ly : Int) (lk : Bool) (lw : Int) (ld : Bool)
theorem h_done_way_0 : walk (roundM sumsS2 60 7 9 2 (SMf f) (h_done f T S K G Q l c s len k cells rs pt ph steps pn pc no th sl gn nx xat cl xw xr xn gh gt gs gw ge gd ax asl an aa ak al po pr pp pl lx ly lk lw ld)) (layB f [true] [true] [] [false, true, true, false, false, false, false, false, false, false, false, false, false, false]) =
    some (layB f [decide (k < len)] [rowB T S K G Q l s && (rowB T S K G Q l s && decide (T = T ∧ S = S ∧ K = K ∧ G = G ∧ Q = Q ∧ l = l ∧ l = l ∧ rs.length = pn ∧ pn ≤ (100000 : Nat)))] [] [false, true, rowB T S K G Q l (PK f T S K k rs s) && (PK f T S K k rs s).ws.length.beq l, !alikeB (PK f T S K k rs s) (PK f T S K k rs s), false, false, false, false, false, false, false, false, false, bif false then true else no != no], (.normal, h_done f T S K G Q l c (PK f T S K k rs s) len (IntKind.i64.wrap (k + (1 : Int))) cells rs pt ph steps pn pc no th sl gn nx xat cl xw xr xn gh gt gs gw ge gd ax asl an aa ak al po pr pp pl lx ly lk lw ld)) := by cases f <;> kernel_rfl
theorem h_done_way_1 : walk (roundM sumsS2 60 7 9 2 (SMf f) (h_done f T S K G Q l c s len k cells rs pt ph steps pn pc no th sl gn nx xat cl xw xr xn gh gt gs gw ge gd ax asl an aa ak al po pr pp pl lx ly lk lw ld)) ([false]) =
    some ([decide (k < len)], (.exit 0, [.n 0, .ws (cells), .rs (rs)])) := by cases f <;> kernel_rfl
theorem h_done_step (hg : Base T S K G Q l rs pn len k s) : Gone f T S K G Q l c len cells rs pt ph steps pn pc k (roundM sumsS2 60 7 9 2 (SMf f) (h_done f T S K G Q l c s len k cells rs pt ph steps pn pc no th sl gn nx xat cl xw xr xn gh gt gs gw ge gd ax asl an aa ak al po pr pp pl lx ly lk lw ld)) := by
  have hs := hg.row
  have hmn := hg.many
  have hn5 : pn ≤ 100000 := by have := hg.few; omega
  obtain ⟨hR, hkw, hp, hpw, hpl⟩ := base_moreP f hg
  have hm : ∀ k' o, 0 ≤ mat T S K (PK f T S K k rs s) k' o ∧ mat T S K (PK f T S K k rs s) k' o < 18446744073709551616 := fun k' o => mat_word hpw
  have hmW : ∀ k' o, isW (mat T S K (PK f T S K k rs s) k' o) = true := fun k' o => isW_iff.2 (hm k' o)
  have hpos : ∀ k' o, decide (mat T S K (PK f T S K k rs s) k' o > 0) = !(mat T S K (PK f T S K k rs s) k' o == 0) := fun k' o => by
    have := pos_ne (hm k' o).1
    exact this
  have hK0 : decide (0 < K) = true := decide_eq_true (by omega)
  rcases bool_two (decide (k < len)) with h0 | h0
  · exact gone_n (get_walk (h_done_way_0 ..) (by simp only [h0, hmn, hn5, eq_self, and_self, decide_true, hs, hp, alikeB_self, rowB_load, hpl, Bool.not_true, Bool.not_false, Bool.and_self, Bool.true_and, Bool.and_true, cond_false, cond_true, beq_self_eq_true, hmW, stI_ok, x01, hpos, hK0, mload_len, Nat.beq_refl, q_ge, q_le, q_gt, q_ne])) ⟨of_decide_eq_true h0, by rw [hkw]; exact .done _ _ _ _ _ _ _ _ _ _ _ _ _ _ _ _ _ _ _ _ _ _ _ _ _ _ _ _ _ _ _ _ _ (base_nextP (s' := PK f T S K k rs s) hg h0 rfl hpw)⟩
  · exact gone_x (get_walk (h_done_way_1 ..) (by simp only [h0, hmn, hn5, eq_self, and_self, decide_true, hs, hp, alikeB_self, rowB_load, hpl, Bool.not_true, Bool.not_false, Bool.and_self, Bool.true_and, Bool.and_true, cond_false, cond_true, beq_self_eq_true, hmW, stI_ok, x01, hpos, hK0, mload_len, Nat.beq_refl, q_ge, q_le, q_gt, q_ne]))
end Go.Proofs.YtfccbghmagohaaaGreat.Bound
end

section
namespace Go.Proofs.YtfccbghmagohaaaGreat.Bound
open Go.Proofs.YtfccbghmagohaaaGreat.Ev Go.Proofs.YtfccbghmagohaaaGreat.ChartMath
set_option linter.unusedVariables false
set_option linter.unusedSimpArgs false
variable (f : Bool) (T S K G Q : Int) (l c : Nat) (s : MS) (len k : Int) (cells : List Int) (rs : List (List Int)) (pt ph steps : Int) (pn pc : Nat)
theorem h_none_way_0 : walk (roundM sumsS2 60 7 9 2 (SMf f) (h_none f T S K G Q l c s len k cells rs pt ph steps pn pc)) (layB f [true] [true] [] [false, true, true, false, false, false, false, false, false, false, false, false, false, false]) =
    some (layB f [decide (k < len)] [rowB T S K G Q l s && (rowB T S K G Q l s && decide (T = T ∧ S = S ∧ K = K ∧ G = G ∧ Q = Q ∧ l = l ∧ l = l ∧ rs.length = pn ∧ pn ≤ (100000 : Nat)))] [] [false, true, rowB T S K G Q l (PK f T S K k rs s) && (PK f T S K k rs s).ws.length.beq l, !alikeB (PK f T S K k rs s) (PK f T S K k rs s), false, false, false, false, false, false, false, false, false, false], (.normal, h_none f T S K G Q l c (PK f T S K k rs s) len (IntKind.i64.wrap (k + (1 : Int))) cells rs pt ph steps pn pc)) := by cases f <;> kernel_rfl
theorem h_none_way_1 : walk (roundM sumsS2 60 7 9 2 (SMf f) (h_none f T S K G Q l c s len k cells rs pt ph steps pn pc)) ([false]) =
    some ([decide (k < len)], (.exit 0, [.n 0, .ws (cells), .rs (rs)])) := by cases f <;> kernel_rfl
theorem h_none_step (hg : Base T S K G Q l rs pn len k s) : Gone f T S K G Q l c len cells rs pt ph steps pn pc k (roundM sumsS2 60 7 9 2 (SMf f) (h_none f T S K G Q l c s len k cells rs pt ph steps pn pc)) := by
  have hs := hg.row
  have hmn := hg.many
  have hn5 : pn ≤ 100000 := by have := hg.few; omega
  obtain ⟨hR, hkw, hp, hpw, hpl⟩ := base_moreP f hg
  have hm : ∀ k' o, 0 ≤ mat T S K (PK f T S K k rs s) k' o ∧ mat T S K (PK f T S K k rs s) k' o < 18446744073709551616 := fun k' o => mat_word hpw
  have hmW : ∀ k' o, isW (mat T S K (PK f T S K k rs s) k' o) = true := fun k' o => isW_iff.2 (hm k' o)
  have hpos : ∀ k' o, decide (mat T S K (PK f T S K k rs s) k' o > 0) = !(mat T S K (PK f T S K k rs s) k' o == 0) := fun k' o => by
    have := pos_ne (hm k' o).1
    exact this
  have hK0 : decide (0 < K) = true := decide_eq_true (by omega)
  rcases bool_two (decide (k < len)) with h0 | h0
  · exact gone_n (get_walk (h_none_way_0 ..) (by simp only [h0, hmn, hn5, eq_self, and_self, decide_true, hs, hp, alikeB_self, rowB_load, hpl, Bool.not_true, Bool.not_false, Bool.and_self, Bool.true_and, Bool.and_true, cond_false, cond_true, beq_self_eq_true, hmW, stI_ok, x01, hpos, hK0, mload_len, Nat.beq_refl, q_ge, q_le, q_gt, q_ne])) ⟨of_decide_eq_true h0, by rw [hkw]; exact .never _ _ (base_nextP (s' := PK f T S K k rs s) hg h0 rfl hpw)⟩
  · exact gone_x (get_walk (h_none_way_1 ..) (by simp only [h0, hmn, hn5, eq_self, and_self, decide_true, hs, hp, alikeB_self, rowB_load, hpl, Bool.not_true, Bool.not_false, Bool.and_self, Bool.true_and, Bool.and_true, cond_false, cond_true, beq_self_eq_true, hmW, stI_ok, x01, hpos, hK0, mload_len, Nat.beq_refl, q_ge, q_le, q_gt, q_ne]))
end Go.Proofs.YtfccbghmagohaaaGreat.Bound
end

section
namespace Go.Proofs.YtfccbghmagohaaaGreat.Bound
open Go.Proofs.YtfccbghmagohaaaGreat.Ev Go.Proofs.YtfccbghmagohaaaGreat.ChartMath
set_option linter.unusedVariables false
set_option linter.unusedSimpArgs false
variable (f : Bool) (T S K G Q : Int) (l c : Nat) (s : MS) (len k : Int) (cells : List Int) (rs : List (List Int)) (pt ph steps : Int) (pn pc : Nat) (th sl gn : Int) (cl : Bool) (xat xw xr xn gh : Int) (gt : Bool) (gs gw ge : Int) (gd : Bool) (ax asl an aa : Int) (ak al : Bool) (po pr pp : Int) (pl : Bool) (lx ly : Int) (lk : Bool) (lw : Int) (ld : Bool)
theorem h_die_way_0 : walk (roundM sumsS2 60 7 9 2 (SMf f) (h_die f T S K G Q l c s len k cells rs pt ph steps pn pc th sl gn cl xat xw xr xn gh gt gs gw ge gd ax asl an aa ak al po pr pp pl lx ly lk lw ld)) (layB f [true] [true] [] [true, true, false, false, false, false, false, false, false, false, false, false, false, false, false, false, true, true, true, false, false, false, false, false, false, false, false, false, false, false]) =
    some (layB f [decide (k < len)] [rowB T S K G Q l s && (rowB T S K G Q l s && decide (T = T ∧ S = S ∧ K = K ∧ G = G ∧ Q = Q ∧ l = l ∧ l = l ∧ rs.length = pn ∧ pn ≤ (100000 : Nat)))] [] [true, rowB T S K G Q l (PK f T S K k rs s), false, false, false, false, false, false, false, false, false, false, false, false, false, false, true, rowB T S K G Q l (PK f T S K k rs s), rowB T S K G Q l (mload T S K (PK f T S K k rs s) (4 : Int) sl) && (PK f T S K k rs s).ws.length.beq l, !alikeB (mload T S K (PK f T S K k rs s) (4 : Int) sl) (mload T S K (PK f T S K k rs s) (4 : Int) sl), false, false, false, false, false, false, false, false, false, false], (.normal, h_dead f T S K G Q l c (mload T S K (PK f T S K k rs s) (4 : Int) sl) len (IntKind.i64.wrap (k + (1 : Int))) cells rs pt ph steps pn pc th sl gn cl (mat T S K (PK f T S K k rs s) (4 : Int) sl) xat xr xn gh gt gs gw ge gd ax asl an aa ak al po pr pp pl lx ly lk lw ld)) := by cases f <;> kernel_rfl
theorem h_die_way_1 : walk (roundM sumsS2 60 7 9 2 (SMf f) (h_die f T S K G Q l c s len k cells rs pt ph steps pn pc th sl gn cl xat xw xr xn gh gt gs gw ge gd ax asl an aa ak al po pr pp pl lx ly lk lw ld)) ([false]) =
    some ([decide (k < len)], (.exit 0, [.n 0, .ws (cells), .rs (rs)])) := by cases f <;> kernel_rfl
theorem h_die_step (hg : Base T S K G Q l rs pn len k s) (hc : (0 ≤ sl ∧ sl ≤ 11 ∧ 0 ≤ gn ∧ gn ≤ 1073741823)) : Gone f T S K G Q l c len cells rs pt ph steps pn pc k (roundM sumsS2 60 7 9 2 (SMf f) (h_die f T S K G Q l c s len k cells rs pt ph steps pn pc th sl gn cl xat xw xr xn gh gt gs gw ge gd ax asl an aa ak al po pr pp pl lx ly lk lw ld)) := by
  have hs := hg.row
  have hmn := hg.many
  have hn5 : pn ≤ 100000 := by have := hg.few; omega
  obtain ⟨hR, hkw, hp, hpw, hpl⟩ := base_moreP f hg
  have hm : ∀ k' o, 0 ≤ mat T S K (PK f T S K k rs s) k' o ∧ mat T S K (PK f T S K k rs s) k' o < 18446744073709551616 := fun k' o => mat_word hpw
  have hmW : ∀ k' o, isW (mat T S K (PK f T S K k rs s) k' o) = true := fun k' o => isW_iff.2 (hm k' o)
  have hpos : ∀ k' o, decide (mat T S K (PK f T S K k rs s) k' o > 0) = !(mat T S K (PK f T S K k rs s) k' o == 0) := fun k' o => by
    have := pos_ne (hm k' o).1
    exact this
  have hK0 : decide (0 < K) = true := decide_eq_true (by omega)
  have hsl : decide (0 ≤ sl ∧ sl ≤ 11) = true := decide_eq_true (by omega)
  have hgw : IntKind.i64.wrap (gn + 1) = gn + 1 := by rw [IntKind.wrap_i64]; omega
  have hgn : decide ((0 : Int) ≤ 0 ∧ (0 : Int) ≤ 7 ∧ 0 ≤ gn + 1 ∧ gn + 1 ≤ 1073741824) = true := decide_eq_true (by omega)
  rcases bool_two (decide (k < len)) with h0 | h0
  · exact gone_n (get_walk (h_die_way_0 ..) (by simp only [h0, hsl, hgn, hgw, hmn, hn5, eq_self, and_self, decide_true, hs, hp, alikeB_self, rowB_load, hpl, Bool.not_true, Bool.not_false, Bool.and_self, Bool.true_and, Bool.and_true, cond_false, cond_true, beq_self_eq_true, hmW, stI_ok, x01, hpos, hK0, mload_len, Nat.beq_refl, q_ge, q_le, q_gt, q_ne])) ⟨of_decide_eq_true h0, by rw [hkw]; exact .dead _ _ _ _ _ _ _ _ _ _ _ _ _ _ _ _ _ _ _ _ _ _ _ _ _ _ _ _ _ _ _ (base_nextP (s' := mload T S K (PK f T S K k rs s) (4 : Int) sl) hg h0 rfl hpw) (by have := hm (4 : Int) sl; first | (simp only [decide_eq_true_eq, decide_eq_false_iff_not, beq_iff_eq, beq_eq_false_iff_ne, ne_eq, IntKind.wrap_i64] at h0 ⊢; omega) | omega)⟩
  · exact gone_x (get_walk (h_die_way_1 ..) (by simp only [h0, hsl, hgn, hgw, hmn, hn5, eq_self, and_self, decide_true, hs, hp, alikeB_self, rowB_load, hpl, Bool.not_true, Bool.not_false, Bool.and_self, Bool.true_and, Bool.and_true, cond_false, cond_true, beq_self_eq_true, hmW, stI_ok, x01, hpos, hK0, mload_len, Nat.beq_refl, q_ge, q_le, q_gt, q_ne]))
end Go.Proofs.YtfccbghmagohaaaGreat.Bound
end
