/- The law ThreadBusy: the loop comes to its end. No condition. The law ThreadBusy: the loop's sum. No condition. -/
import Derived.Test.YtifojacfedjedaaGreatThBQ
section
namespace Go.Proofs.YtifojacfedjedaaGreat.Bound
open Go.Proofs.YtifojacfedjedaaGreat.Ev Go.Proofs.YtifojacfedjedaaGreat.ChartMath
set_option linter.unusedVariables false
set_option linter.unusedSimpArgs false
theorem lat_zero {T S K : Int} {n : Nat} {k o : Int} : lat T S K (List.replicate n 0) k o = 0 := by
  unfold lat
  split
  · rw [List.getD_eq_getElem?_getD, List.getElem?_replicate]
    split <;> rfl
  · rfl
section
variable {T S K G Q : Int} {l c : Nat} {b0 b1 b2 : Int}
/-- It ends idle. -/
def Fin (T S K G Q : Int) (l c : Nat) (x : List Atom) : Prop := ∃ (t : Nat → Int) (s : MS) (n : Nat), iterR rdB n x = some (.exit 0, .n 0 :: (thA t ++ mA T S K G Q l c s))
theorem Fin.step {x y : List Atom} (h : (rdB x).get = some (.normal, y)) (hy : Fin T S K G Q l c y) : Fin T S K G Q l c x := by
  obtain ⟨t, s, n, hn⟩ := hy
  exact ⟨t, s, n + 1, by simp only [iterR, h]; exact hn⟩
theorem go_get {q : Nat × Nat × Nat} {i : Int} {t : Nat → Int} {x : List Atom} (hq : inQ q = true) (h0 : 0 ≤ i) (h1 : i < 100) : (goB q i t x b0 b1 b2).get = some (.normal, bz q (i + 1) t x b0 b1 b2) := by
  unfold goB
  rw [hq, wr_s (by omega) (by omega)]
  rfl
theorem fin_idle : ∀ (n : Nat) (i : Int) (t : Nat → Int) (s : MS), 0 ≤ i → i + n = 100 → Fin T S K G Q l c (bz (0, 0, 0) i t (mA T S K G Q l c s) b0 b1 b2)
  | 0, i, t, s, h0, h1 => ⟨t, s, 1, by simp only [iterR, rb_0, Tree.get_br, decide_eq_false (show ¬ i < 100 by omega), Bool.false_eq_true, if_false, Tree.get_leaf]⟩
  | n + 1, i, t, s, h0, h1 => Fin.step (by rw [rb_0, Tree.get_br, if_pos (decide_eq_true (by omega))]; exact go_get rfl h0 (by omega)) (fin_idle n (i + 1) t s (by omega) (by omega))
/-- Nothing was told yet. -/
def Mute (t : Nat → Int) : Prop := t 6 = 0 ∧ t 7 = 0 ∧ t 8 = 0
theorem ans_get {t : Nat → Int} {r : Tree (Ex × List Atom)} (h : Mute t) : (ansB t r).get = r.get := by
  obtain ⟨h6, h7, h8⟩ := h
  unfold ansB
  rw [h6, h7, h8]
  rfl
variable {i : Int} {t u : Nat → Int} {bo : Nat → Bool} {na : Nat → Nat} {wl : Nat → List Int} {s : MS}
theorem go4 {M : Nat} (h4 : Rb4Ok M) (h0 : 0 ≤ i) (h1 : i ≤ 90) (hm : Mute t) (hg : Good T S K G Q l s.ws) : Fin T S K G Q l c (bz (4, M, mcDone M) i t (mcOw M (mcDone M) u bo na wl ++ mA T S K G Q l c s) b0 b1 b2) :=
  Fin.step (by rw [h4, Tree.get_br, if_pos (decide_eq_true (by omega)), ans_get hm, Tree.get_br, if_pos hg.rowB]; exact go_get rfl h0 (by omega)) (fin_idle (99 - i).toNat (i + 1) _ _ (by omega) (by omega))
theorem go3 {M k k' : Nat} {y : List Atom} (h3 : Rb3Ok M k) (hs : (mcT M k (mcOw M k u bo na wl ++ mA T S K G Q l c s)).get = some (k', y)) (hq : inQ (nxQ M k') = true) (h0 : 0 ≤ i) (h1 : i ≤ 90) (hm : Mute t) (hf : Fin T S K G Q l c (bz (nxQ M k') (i + 1) t y b0 b1 b2)) : Fin T S K G Q l c (bz (3, M, k) i t (mcOw M k u bo na wl ++ mA T S K G Q l c s) b0 b1 b2) :=
  Fin.step (by rw [h3, Tree.get_br, if_pos (decide_eq_true (by omega)), ans_get hm, Tree.get_bind, hs]; exact go_get hq h0 (by omega)) hf
theorem go2 {M k : Nat} {p e : Int} (h2 : Rb2Ok M k) (hq : inQ (nxQ M k) = true) (h0 : 0 ≤ i) (h1 : i ≤ 90) (hm : Mute t) (hg : Good T S K G Q l s.ws) (hf : Fin T S K G Q l c (bz (nxQ M k) (i + 1) t (mcOw M k u bo na wl ++ mA T S K G Q l c (mstore T S K s 3 p (IntKind.u64.wrap (e + 1)))) b0 b1 b2)) : Fin T S K G Q l c (bz (2, M, k) i t (pinA p e ++ (mcOw M k u bo na wl ++ mA T S K G Q l c s)) b0 b1 b2) :=
  Fin.step (by rw [h2, Tree.get_br, if_pos (decide_eq_true (by omega)), ans_get hm, Tree.get_br, if_pos hg.rowB]; exact go_get hq h0 (by omega)) hf
theorem go1 {M k : Nat} {p e : Int} (h1' : Rb1Ok M k) (hq : inQ (2, M, k) = true) (h0 : 0 ≤ i) (h1 : i ≤ 90) (hm : Mute t) (hg : Good T S K G Q l s.ws) (hf : Fin T S K G Q l c (bz (2, M, k) (i + 1) t (pinA p (mat T S K s 2 0) ++ (mcOw M k u bo na wl ++ mA T S K G Q l c (mload T S K s 2 0))) b0 b1 b2)) : Fin T S K G Q l c (bz (1, M, k) i t (pinA p e ++ (mcOw M k u bo na wl ++ mA T S K G Q l c s)) b0 b1 b2) :=
  Fin.step (by rw [h1', Tree.get_br, if_pos (decide_eq_true (by omega)), ans_get hm, Tree.get_br, if_pos hg.rowB]; exact go_get hq h0 (by omega)) hf
/-- The pin is laid. -/
theorem pinned {M k : Nat} {p e : Int} (h1' : Rb1Ok M k) (h2 : Rb2Ok M k) (q1 : inQ (2, M, k) = true) (q2 : inQ (nxQ M k) = true) (hm : Mute t) (hg : Good T S K G Q l s.ws) (hz : s.ws = List.replicate l 0)
    (hf : ∀ s' : MS, Good T S K G Q l s'.ws → s'.ws = lset T S K (List.replicate l 0) 3 p 1 → Fin T S K G Q l c (bz (nxQ M k) 2 t (mcOw M k u bo na wl ++ mA T S K G Q l c s') b0 b1 b2)) :
    Fin T S K G Q l c (bz (1, M, k) 0 t (pinA p e ++ (mcOw M k u bo na wl ++ mA T S K G Q l c s)) b0 b1 b2) := by
  have e0 : mat T S K s 2 0 = 0 := by rw [mat_lat, hz]; exact lat_zero
  refine go1 h1' q1 (by omega) (by omega) hm hg ?_
  rw [e0]
  refine go2 h2 q2 (by omega) (by omega) hm (by rw [mload_ws]; exact hg) ?_
  refine hf _ ?_ ?_
  · rw [mstore_ws, mload_ws]
    exact hg.lset (by decide) 3 p
  · rw [mstore_ws, mload_ws, hz]
    rfl
theorem pin_st {n : Nat} {p o : Int} : lat T S K (lset T S K (List.replicate n 0) 3 p 1) 4 o = 0 := by
  by_cases e : cellOf T S K 3 p = cellOf T S K 4 o
  · unfold lat lset
    have : ¬ 0 ≤ cellOf T S K 4 o := by
      revert e
      unfold cellOf
      repeat' split
      all_goals intro e
      all_goals omega
    rw [if_neg this]
  · rw [lat_other e]; exact lat_zero
end
/-! Where it begins. -/
def uL (l : List Int) (j : Nat) : Int := nthD 0 l j
def nL (l : List Nat) (j : Nat) : Nat := nthD 0 l j
def noB (_ : Nat) : Bool := false
def enW (_ : Nat) : List Int := [2]
def swW (_ : Nat) : List Int := [4, 5, 6, 7]
section
variable {T S K G Q : Int} {l c : Nat} {b0 b1 b2 : Int} {t : Nat → Int} {s : MS} {ky sl es eh ew p e : Int} {ec : Nat}
theorem ow_rd : mcOw 1 0 (uL [ky, sl, sl, es, eh, 0, ew]) noB (nL [1, ec]) enW = [.i ky, .i sl] ++ enA sl es eh ec false ew := by kernel_rfl
theorem ow_wr : mcOw 2 0 (uL [ky, sl, sl, es, eh, 0, ew]) noB (nL [1, ec]) enW = [.i ky, .i sl] ++ enA sl es eh ec false ew := by kernel_rfl
theorem ow_cm : mcOw 3 0 (uL [sl, sl, es, eh, 0, ew]) noB (nL [1, ec]) enW = [.i sl] ++ enA sl es eh ec false ew := by kernel_rfl
theorem ow_ab : mcOw 4 0 (uL [sl, sl, es, eh, 0, ew]) noB (nL [1, ec]) enW = [.i sl] ++ enA sl es eh ec false ew := by kernel_rfl
theorem ow_sw {th gn : Int} : mcOw 5 0 (uL [T, S, K, G, Q, th, sl, gn, 0, sl, es, eh, 0, ew]) noB (nL [4, ec]) swW = [.i T, .i S, .i K, .i G, .i Q, .i th, .i sl, .i gn, .b false, .i 0] ++ [.i sl, .i es, .i eh, .n 4, .n ec, .b false, .b false, .i 0, .i ew, .ws [4, 5, 6, 7]] := by kernel_rfl
theorem ow_d1 {x : Int} {bo : Nat → Bool} {na : Nat → Nat} {wl : Nat → List Int} : mcOw 1 9 (uL [x]) bo na wl = [.i x] := by kernel_rfl
theorem ow_d2 {x : Int} {bo : Nat → Bool} {na : Nat → Nat} {wl : Nat → List Int} : mcOw 2 11 (uL [x]) bo na wl = [.i x] := by kernel_rfl
theorem ow_d5 {x : Int} {bo : Nat → Bool} {na : Nat → Nat} {wl : Nat → List Int} : mcOw 5 20 (uL [x]) bo na wl = [.i x] := by kernel_rfl
theorem ow_d3 {x y z : Int} {bo : Nat → Bool} {na : Nat → Nat} {wl : Nat → List Int} : mcOw 3 15 (uL [x, y, z]) bo na wl = [.i x, .i y, .i z] := by kernel_rfl
theorem ow_d4 {x y z : Int} {bo : Nat → Bool} {na : Nat → Nat} {wl : Nat → List Int} : mcOw 4 3 (uL [x, y, z]) bo na wl = [.i x, .i y, .i z] := by kernel_rfl
theorem ow_d0 {x y z : Int} {bo : Nat → Bool} {na : Nat → Nat} {wl : Nat → List Int} : mcOw 0 9 (uL [x, y, z]) bo na wl = [.i x, .i y, .i z] := by kernel_rfl
theorem ow_o0 {a : Int} : mcOw 0 0 (uL [a, 0, 0, 0, a]) noB (nL []) enW = [.i a, .i 0, .i 0, .i 0, .i a] := by kernel_rfl
theorem ow_o1 {a w : Int} : mcOw 0 1 (uL [a, w, 0, 0, 0, a]) noB (nL []) enW = [.i a, .i w, .i 0, .i 0, .i 0, .i a] := by kernel_rfl
theorem ow_o2 {a w : Int} : mcOw 0 2 (uL [a, w, 0, 0, 0]) noB (nL []) enW = [.i a, .i w, .i 0, .i 0, .i 0] := by kernel_rfl
theorem ow_o7 {a w q : Int} : mcOw 0 7 (uL [a, w, q, 0, 0, 0]) noB (nL []) enW = [.i a, .i w, .i q, .i 0, .i 0, .i 0] := by kernel_rfl
theorem ow_o8 {a w q : Int} : mcOw 0 8 (uL [a, w, q, 0, 0, 0]) noB (nL []) enW = [.i a, .i w, .i q, .i 0, .i 0, .i 0] := by kernel_rfl
variable (hm : Mute t) (hg : Good T S K G Q l s.ws) (hz : s.ws = List.replicate l 0)
include hm hg hz
theorem fin_done {M : Nat} (h1 : Rb1Ok M (mcDone M)) (h2 : Rb2Ok M (mcDone M)) (h4 : Rb4Ok M) (q1 : inQ (2, M, mcDone M) = true) (q2 : inQ (4, M, mcDone M) = true) (u : Nat → Int) (bo : Nat → Bool) (na : Nat → Nat) (wl : Nat → List Int) :
    Fin T S K G Q l c (bz (1, M, mcDone M) 0 t (pinA p e ++ (mcOw M (mcDone M) u bo na wl ++ mA T S K G Q l c s)) b0 b1 b2) := by
  have e : nxQ M (mcDone M) = (4, M, mcDone M) := by unfold nxQ; rw [Nat.beq_refl]; rfl
  refine pinned h1 h2 q1 (by rw [e]; exact q2) hm hg hz fun s' g z => ?_
  rw [e]
  exact go4 h4 (by omega) (by omega) hm g
theorem fin_rd (he : isW eh = true) (hk : okT eh S = true) : Fin T S K G Q l c (bz (1, 1, 0) 0 t (pinA p e ++ (([.i ky, .i sl] ++ enA sl es eh ec false ew) ++ mA T S K G Q l c s)) b0 b1 b2) := by
  rw [← ow_rd]
  refine pinned rb_1_1_0 rb_2_1_0 rfl rfl hm hg hz fun s' g z => ?_
  refine go3 (k' := 9) rb_3_1_0 (by rw [ow_rd]; exact rd_stale g he hk (by rw [z, pin_st]; rfl)) rfl (by omega) (by omega) hm ?_
  rw [← ow_d1 (bo := noB) (na := nL []) (wl := enW)]
  exact go4 rb_4_1_9 (by omega) (by omega) hm (by rw [mload_ws]; exact g)
theorem fin_wr (he : isW eh = true) (hk : okT eh S = true) : Fin T S K G Q l c (bz (1, 2, 0) 0 t (pinA p e ++ (([.i ky, .i sl] ++ enA sl es eh ec false ew) ++ mA T S K G Q l c s)) b0 b1 b2) := by
  rw [← ow_wr]
  refine pinned rb_1_2_0 rb_2_2_0 rfl rfl hm hg hz fun s' g z => ?_
  refine go3 (k' := 11) rb_3_2_0 (by rw [ow_wr]; exact wr_stale g he hk (by rw [z, pin_st]; rfl)) rfl (by omega) (by omega) hm ?_
  rw [← ow_d2 (bo := noB) (na := nL []) (wl := enW)]
  exact go4 rb_4_2_11 (by omega) (by omega) hm (by rw [mload_ws]; exact g)
theorem fin_cm (he : isW eh = true) (hk : okT eh S = true) : Fin T S K G Q l c (bz (1, 3, 0) 0 t (pinA p e ++ (([.i sl] ++ enA sl es eh ec false ew) ++ mA T S K G Q l c s)) b0 b1 b2) := by
  rw [← ow_cm]
  refine pinned rb_1_3_0 rb_2_3_0 rfl rfl hm hg hz fun s' g z => ?_
  refine go3 (k' := 15) rb_3_3_0 (by rw [ow_cm]; exact cm_stale g he hk (by rw [z, pin_st]; rfl)) rfl (by omega) (by omega) hm ?_
  rw [← ow_d3 (bo := noB) (na := nL []) (wl := enW)]
  exact go4 rb_4_3_15 (by omega) (by omega) hm (by rw [mload_ws]; exact g)
theorem fin_ab (he : isW eh = true) (hk : okT eh S = true) : Fin T S K G Q l c (bz (1, 4, 0) 0 t (pinA p e ++ (([.i sl] ++ enA sl es eh ec false ew) ++ mA T S K G Q l c s)) b0 b1 b2) := by
  rw [← ow_ab]
  refine pinned rb_1_4_0 rb_2_4_0 rfl rfl hm hg hz fun s' g z => ?_
  refine go3 (k' := 3) rb_3_4_0 (by rw [ow_ab]; exact ab_stale g he hk (by rw [z, pin_st]; rfl)) rfl (by omega) (by omega) hm ?_
  rw [← ow_d4 (bo := noB) (na := nL []) (wl := enW)]
  exact go4 rb_4_4_3 (by omega) (by omega) hm (by rw [mload_ws]; exact g)
theorem fin_sw {th gn : Int} (he : isW eh = true) (hk : okT eh S = true) : Fin T S K G Q l c (bz (1, 5, 0) 0 t (pinA p e ++ (([.i T, .i S, .i K, .i G, .i Q, .i th, .i sl, .i gn, .b false, .i 0] ++ [.i sl, .i es, .i eh, .n 4, .n ec, .b false, .b false, .i 0, .i ew, .ws [4, 5, 6, 7]]) ++ mA T S K G Q l c s)) b0 b1 b2) := by
  rw [← ow_sw]
  refine pinned rb_1_5_0 rb_2_5_0 rfl rfl hm hg hz fun s' g z => ?_
  refine go3 (k' := 20) rb_3_5_0 (by rw [ow_sw]; exact sw_stale g he hk (by rw [z, pin_st]; rfl)) rfl (by omega) (by omega) hm ?_
  rw [← ow_d5 (bo := noB) (na := nL []) (wl := enW)]
  exact go4 rb_4_5_20 (by omega) (by omega) hm (by rw [mload_ws]; exact g)
theorem fin_op : Fin T S K G Q l c (bz (1, 0, 0) 0 t (pinA p e ++ (([.i 0, .i 0, .i 0, .i 0, .i 0]) ++ mA T S K G Q l c s)) b0 b1 b2) := by
  have hc := hg.cfg
  have hR := hg.right
  simp only [right, decide_eq_true_eq] at hR
  rw [← ow_o0]
  refine pinned rb_1_0_0 rb_2_0_0 rfl rfl hm hg hz fun s' g z => ?_
  have w0 : lat T S K s'.ws 4 0 = 0 := by rw [z, pin_st]
  refine go3 (k' := 1) rb_3_0_0 (by rw [ow_o0]; exact o_look g (by rw [w0]; rfl) (by rw [w0]; show (0 : Int) ≤ G; omega)) rfl (by omega) (by omega) hm ?_
  rw [w0, ← ow_o1]
  have c4 : 0 ≤ cellOf T S K 4 0 := by unfold cellOf; repeat' split; all_goals omega
  refine go3 (k' := 2) rb_3_0_1 (by rw [ow_o1]; exact o_take (by rw [mload_ws]; exact g) rfl (by unfold mok; rw [decide_eq_true c4, mat_lat, mload_ws, w0]; rfl)) rfl (by omega) (by omega) hm ?_
  have g2 : Good T S K G Q l (mswap T S K (mload T S K s' 4 0) 4 0 0 (moveI 0 1 false)).ws := by
    simp only [mswap]
    split
    · exact (show Good T S K G Q l (mload T S K s' 4 0).ws from g).lset (by decide) 4 0
    · exact g
  have t0 : lat T S K (mswap T S K (mload T S K s' 4 0) 4 0 0 (moveI 0 1 false)).ws 1 0 = 0 := by
    have n1 : cellOf T S K 4 0 ≠ cellOf T S K 1 0 := by unfold cellOf; repeat' split; all_goals omega
    have n2 : cellOf T S K 3 p ≠ cellOf T S K 1 0 := by unfold cellOf; repeat' split; all_goals omega
    have b : lat T S K s'.ws 1 0 = 0 := by rw [z, lat_other n2]; exact lat_zero
    simp only [mswap]
    split
    · exact (lat_other n1).trans b
    · exact b
  rw [← ow_o2]
  refine go3 (k' := 7) rb_3_0_2 (by rw [ow_o2]; exact o_tally g2 (by rw [t0]; decide)) rfl (by omega) (by omega) hm ?_
  rw [t0, ← ow_o7]
  refine go3 (k' := 8) rb_3_0_7 (by rw [ow_o7]; exact o_note (by rw [mload_ws]; exact g2)) rfl (by omega) (by omega) hm ?_
  rw [← ow_o8]
  have g3 : Good T S K G Q l (mstore T S K (mload T S K (mswap T S K (mload T S K s' 4 0) 4 0 0 (moveI 0 1 false)) 1 0) 5 0 (0 / 16)).ws := by
    rw [mstore_ws, mload_ws]
    exact g2.lset (by decide) 5 0
  refine go3 (k' := 9) rb_3_0_8 (by rw [ow_o8]; exact o_start g3 rfl (by decide)) rfl (by omega) (by omega) hm ?_
  rw [← ow_d0 (bo := noB) (na := nL []) (wl := enW)]
  refine go4 rb_4_0_9 (by omega) (by omega) hm ?_
  rw [mstore_ws]
  exact g3.lset (by decide) 4 0
end
end Go.Proofs.YtifojacfedjedaaGreat.Bound
end

section
namespace Go.Proofs.YtifojacfedjedaaGreat.Bound
open Go.Proofs.YtifojacfedjedaaGreat.Ev Go.Proofs.YtifojacfedjedaaGreat.ChartMath
set_option linter.unusedVariables false
set_option linter.unusedSimpArgs false
/-- Where the loop ends: what was told, and the memory. -/
structure BR where
  t : Nat → Int
  s : MS
open Classical in
noncomputable def runB (T S K G Q : Int) (l c : Nat) (x : List Atom) : Option BR :=
  if h : ∃ R : BR, ∃ n, iterR rdB n x = some (.exit 0, .n 0 :: (thA R.t ++ mA T S K G Q l c R.s)) then some h.choose else none
def dfB : BR := ⟨fun _ => 0, ⟨[], 0, 0, 0, 0, 0, 0, false⟩⟩
theorem runB_fin {T S K G Q : Int} {l c : Nat} {x : List Atom} (h : Fin T S K G Q l c x) : ∃ R, runB T S K G Q l c x = some R := by
  obtain ⟨t, s, n, hn⟩ := h
  have hx : ∃ R : BR, ∃ n, iterR rdB n x = some (.exit 0, .n 0 :: (thA R.t ++ mA T S K G Q l c R.s)) := ⟨⟨t, s⟩, n, hn⟩
  unfold runB
  rw [dif_pos hx]
  exact ⟨_, rfl⟩
noncomputable def bz_o (x : List Atom) : Tree (Ex × List Atom) := match (x.drop (x.length - 18)).take 15 with
  | [.i T, .i S, .i K, .i G, .i Q, .n l, .n c, .i tk, .i ts, .i to, .i told, .i tnew, .b td, .i many, .ws ws] => .br (runB T S K G Q l c x).isSome (.leaf (.exit 0, .n 0 :: (thA ((runB T S K G Q l c x).getD dfB).t ++ mA T S K G Q l c ((runB T S K G Q l c x).getD dfB).s))) .bad
  | _ => .bad
theorem bz_step (x : List Atom) (r : Ex × List Atom) (h : (bz_o x).get = some r) : ∃ n, iterR rdB n x = some r := by
  unfold bz_o at h
  split at h
  · rename_i T S K G Q l c tk ts to told tnew td many ws hx
    obtain ⟨hs, g2⟩ := get_br h
    cases hv : runB T S K G Q l c x with
    | none => rw [hv] at hs; cases hs
    | some R =>
      rw [hv] at g2
      simp only [Option.getD_some, Tree.get_leaf, Option.some.injEq] at g2
      unfold runB at hv
      split at hv
      · rename_i hq
        cases hv
        obtain ⟨n, hn⟩ := hq.choose_spec
        exact ⟨n, hn.trans (by rw [← g2])⟩
      · cases hv
  · cases h
theorem bodyBz_is : bodyOf 6 = some ((bodyOf 6).getD .skip) := by kernel_rfl
theorem keysBz_is : keysOk (loopsIn ((bodyOf 6).getD .skip)) = true := by kernel_rfl
theorem BZ_heads : headsOk 0 BZ.F.heads = true := by kernel_rfl
noncomputable def sumsBl : Sums := withLoop sumsBz 6 8 (tmsum 0 BZ.F bz_o)
theorem sumsBl_ok : SumsOk sumsBl := loop_ssum (fuel := 60) (S := BZ) (out := bz_o) sumsBz_ok bodyBz_is keysBz_is BZ_heads bz_step
end Go.Proofs.YtifojacfedjedaaGreat.Bound
end
