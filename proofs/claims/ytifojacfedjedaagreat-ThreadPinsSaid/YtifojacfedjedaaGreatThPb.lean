/- The law ThreadPins: the loop, by kinds of a thread's state: forms, and each round. No condition. The law ThreadPins: the loop comes to its end. No condition. -/
import Derived.Test.YtifojacfedjedaaGreatThPa
section
namespace Go.Proofs.YtifojacfedjedaaGreat.Bound
open Go.Proofs.YtifojacfedjedaaGreat.Ev Go.Proofs.YtifojacfedjedaaGreat.ChartMath
set_option linter.unusedVariables false
set_option linter.unusedSimpArgs false
def pzP (q : Nat × Nat × Nat) : SPat :=
  let m := 1 + thLen q.1 q.2.1 q.2.2
  ⟨[(9, .ptr 0 0 none), (7, .ptr m 0 none), (2, i6), (69, i6)], 97, thB q.1 q.2.1 q.2.2 0 1 ++ memBk m, m + 2, []⟩
def pzE : SPat := ⟨[(9, .ptr 0 0 none)], 97, thB 0 0 0 0 1, 1, []⟩
def PZ : SForm := ⟨⟨thQ.map fun q => ([9, 7, 2, 69], pzP q), [(0, [([9], pzE)])], []⟩, fun e s => match e with
  | .normal => qSel s 9
  | _ => [0]⟩
def pz (q : Nat × Nat × Nat) (id i : Int) (t : Nat → Int) (x : List Atom) : List Atom := .n (qD q) :: .i id :: .i i :: (thA t ++ x)
noncomputable def rdZ : List Atom → Tree (Ex × List Atom) := roundS sumsBz 60 3 10 0 PZ
def goZ (q : Nat × Nat × Nat) (id i : Int) (t : Nat → Int) (x : List Atom) : Tree (Ex × List Atom) := cond (inQ q) (.leaf (.normal, pz q id (IntKind.i64.wrap (i + 1)) t x)) .bad
/-- What is asked at each round's head: the pin, and the epoch. -/
def chkZ (idle : Bool) (id T S K G Q : Int) (l : Nat) (s : MS) (r : MS → Tree (Ex × List Atom)) : Tree (Ex × List Atom) := .br (rowB T S K G Q l s) (.br (!(idle == (mat T S K s 3 id == 0))) .bad (.br (rowB T S K G Q l (mload T S K s 3 id)) (.br (bif false then true else decide (mat T S K s 3 id > IntKind.u64.wrap (mat T S K (mload T S K s 3 id) 2 0 + 1))) .bad (r (mload T S K (mload T S K s 3 id) 2 0))) .bad)) .bad
def Rz3Ok (M k : Nat) : Prop := ∀ (id i : Int) (t u : Nat → Int) (bo : Nat → Bool) (na : Nat → Nat) (wl : Nat → List Int) (T S K G Q : Int) (l c : Nat) (s : MS), (rdZ (pz (3, M, k) id i t (mcOw M k u bo na wl ++ mA T S K G Q l c s))).get = (Tree.br (decide (i < 100)) (chkZ false id T S K G Q l s fun s2 => (mcT M k (mcOw M k u bo na wl ++ mA T S K G Q l c s2)).bind fun r => goZ (nxQ M r.1) id i t r.2) .bad).get
def Rz4Ok (M : Nat) : Prop := ∀ (id i : Int) (t u : Nat → Int) (bo : Nat → Bool) (na : Nat → Nat) (wl : Nat → List Int) (T S K G Q : Int) (l c : Nat) (s : MS), (rdZ (pz (4, M, mcDone M) id i t (mcOw M (mcDone M) u bo na wl ++ mA T S K G Q l c s))).get = (Tree.br (decide (i < 100)) (chkZ false id T S K G Q l s fun s2 => .br (rowB T S K G Q l s2) (goZ (0, 0, 0) id i (t4 t M u) (mA T S K G Q l c (mstore T S K s2 3 (t 5) 0))) .bad) .bad).get
theorem rz_0 (id i : Int) (t : Nat → Int) (T S K G Q : Int) (l c : Nat) (s : MS) : (rdZ (pz (0, 0, 0) id i t (mA T S K G Q l c s))).get = (Tree.br (decide (i < 100)) (chkZ true id T S K G Q l s fun s2 => goZ (0, 0, 0) id i t (mA T S K G Q l c s2)) (.leaf (.exit 0, .n 0 :: thA t))).get := by kernel_rfl
theorem rz_3_0_0 : Rz3Ok 0 0 := fun id i t u bo na wl T S K G Q l c s => by kernel_rfl
theorem rz_3_0_1 : Rz3Ok 0 1 := fun id i t u bo na wl T S K G Q l c s => by kernel_rfl
theorem rz_3_0_2 : Rz3Ok 0 2 := fun id i t u bo na wl T S K G Q l c s => by kernel_rfl
theorem rz_3_0_7 : Rz3Ok 0 7 := fun id i t u bo na wl T S K G Q l c s => by kernel_rfl
theorem rz_3_0_8 : Rz3Ok 0 8 := fun id i t u bo na wl T S K G Q l c s => by kernel_rfl
theorem rz_4_0 : Rz4Ok 0 := fun id i t u bo na wl T S K G Q l c s => by kernel_rfl
theorem rz_3_1_0 : Rz3Ok 1 0 := fun id i t u bo na wl T S K G Q l c s => by kernel_rfl
theorem rz_4_1 : Rz4Ok 1 := fun id i t u bo na wl T S K G Q l c s => by kernel_rfl
theorem rz_3_2_0 : Rz3Ok 2 0 := fun id i t u bo na wl T S K G Q l c s => by kernel_rfl
theorem rz_4_2 : Rz4Ok 2 := fun id i t u bo na wl T S K G Q l c s => by kernel_rfl
theorem rz_3_3_0 : Rz3Ok 3 0 := fun id i t u bo na wl T S K G Q l c s => by kernel_rfl
theorem rz_4_3 : Rz4Ok 3 := fun id i t u bo na wl T S K G Q l c s => by kernel_rfl
theorem rz_3_4_0 : Rz3Ok 4 0 := fun id i t u bo na wl T S K G Q l c s => by kernel_rfl
theorem rz_4_4 : Rz4Ok 4 := fun id i t u bo na wl T S K G Q l c s => by kernel_rfl
theorem rz_3_5_0 : Rz3Ok 5 0 := fun id i t u bo na wl T S K G Q l c s => by kernel_rfl
theorem rz_4_5 : Rz4Ok 5 := fun id i t u bo na wl T S K G Q l c s => by kernel_rfl
end Go.Proofs.YtifojacfedjedaaGreat.Bound
end

section
namespace Go.Proofs.YtifojacfedjedaaGreat.Bound
open Go.Proofs.YtifojacfedjedaaGreat.Ev Go.Proofs.YtifojacfedjedaaGreat.ChartMath
set_option linter.unusedVariables false
set_option linter.unusedSimpArgs false
section
variable {T S K G Q : Int} {l c : Nat} {id : Int}
/-- It ends idle. -/
def FinZ (x : List Atom) : Prop := ∃ (t : Nat → Int) (n : Nat), iterR rdZ n x = some (.exit 0, .n 0 :: thA t)
theorem FinZ.step {x y : List Atom} (h : (rdZ x).get = some (.normal, y)) (hy : FinZ y) : FinZ x := by
  obtain ⟨t, n, hn⟩ := hy
  exact ⟨t, n + 1, by simp only [iterR, h]; exact hn⟩
/-- The pin, and the epoch. -/
structure PinAt (T S K G Q : Int) (l : Nat) (id v : Int) (ws : List Int) : Prop where
  good : Good T S K G Q l ws
  pin : lat T S K ws 3 id = v
  ep : lat T S K ws 2 0 = 0
theorem chk_get {idle : Bool} {v : Int} {s : MS} {r : MS → Tree (Ex × List Atom)} (h : PinAt T S K G Q l id v s.ws) (hv : (idle = true ∧ v = 0) ∨ (idle = false ∧ v = 1)) : (chkZ idle id T S K G Q l s r).get = (r (mload T S K (mload T S K s 3 id) 2 0)).get := by
  have e1 : mat T S K s 3 id = v := h.pin
  have e2 : mat T S K (mload T S K s 3 id) 2 0 = 0 := h.ep
  unfold chkZ
  rw [Tree.get_br, if_pos h.good.rowB, e1, e2, Tree.get_br]
  rcases hv with ⟨rfl, rfl⟩ | ⟨rfl, rfl⟩
  · rw [if_neg (by decide), Tree.get_br, if_pos (by rw [rowB_load]; exact h.good.rowB), Tree.get_br, if_neg (by decide)]
  · rw [if_neg (by decide), Tree.get_br, if_pos (by rw [rowB_load]; exact h.good.rowB), Tree.get_br, if_neg (by decide)]
theorem gz_get {q : Nat × Nat × Nat} {i : Int} {t : Nat → Int} {x : List Atom} (hq : inQ q = true) (h0 : 0 ≤ i) (h1 : i < 100) : (goZ q id i t x).get = some (.normal, pz q id (i + 1) t x) := by
  unfold goZ
  rw [hq, wr_s (by omega) (by omega)]
  rfl
theorem finz_idle : ∀ (n : Nat) (i : Int) (t : Nat → Int) (s : MS), PinAt T S K G Q l id 0 s.ws → 0 ≤ i → i + n = 100 → FinZ (pz (0, 0, 0) id i t (mA T S K G Q l c s))
  | 0, i, t, s, hp, h0, h1 => ⟨t, 1, by simp only [iterR, rz_0, Tree.get_br, decide_eq_false (show ¬ i < 100 by omega), Bool.false_eq_true, if_false, Tree.get_leaf]⟩
  | n + 1, i, t, s, hp, h0, h1 => FinZ.step (y := pz (0, 0, 0) id (i + 1) t (mA T S K G Q l c (mload T S K (mload T S K s 3 id) 2 0))) (by rw [rz_0, Tree.get_br, if_pos (decide_eq_true (by omega)), chk_get hp (.inl ⟨rfl, rfl⟩)]; exact gz_get (q := (0, 0, 0)) rfl h0 (by omega)) (finz_idle n (i + 1) t (mload T S K (mload T S K s 3 id) 2 0) hp (by omega) (by omega))
variable {i : Int} {t u : Nat → Int} {bo : Nat → Bool} {na : Nat → Nat} {wl : Nat → List Int} {s : MS}
theorem pin_ne {k o : Int} (hS : 0 ≤ S) (hk : 4 ≤ k) (h0 : 0 ≤ id) (h1 : id < T) : cellOf T S K k o ≠ cellOf T S K 3 id ∧ cellOf T S K k o ≠ cellOf T S K 2 0 := by
  constructor
  all_goals unfold cellOf
  all_goals repeat' split
  all_goals omega
/-- A word of a slot, or a key, is written. -/
theorem PinAt.put {v k o w : Int} {ws : List Int} (h : PinAt T S K G Q l id v ws) (hk : 4 ≤ k) (h0 : 0 ≤ id) (h1 : id < T) (hw : 0 ≤ w ∧ w < 18446744073709551616) : PinAt T S K G Q l id v (lset T S K ws k o w) :=
  ⟨h.good.lset hw k o, by rw [lat_other (pin_ne (by have := h.good.cfg; omega) hk h0 h1).1]; exact h.pin, by rw [lat_other (pin_ne (by have := h.good.cfg; omega) hk h0 h1).2]; exact h.ep⟩
theorem gz4 {M : Nat} (h4 : Rz4Ok M) (i0 : 0 ≤ i) (i1 : i ≤ 90) (h0 : 0 ≤ id) (h1 : id < T) (ht : t 5 = id) (hp : PinAt T S K G Q l id 1 s.ws) : FinZ (pz (4, M, mcDone M) id i t (mcOw M (mcDone M) u bo na wl ++ mA T S K G Q l c s)) := by
  have hc := hp.good.cfg
  refine FinZ.step (y := pz (0, 0, 0) id (i + 1) (t4 t M u) (mA T S K G Q l c (mstore T S K (mload T S K (mload T S K s 3 id) 2 0) 3 (t 5) 0))) ?_ (finz_idle (99 - i).toNat (i + 1) _ _ ?_ (by omega) (by omega))
  · rw [h4, Tree.get_br, if_pos (decide_eq_true (by omega)), chk_get hp (.inr ⟨rfl, rfl⟩), Tree.get_br, if_pos (by rw [rowB_load, rowB_load]; exact hp.good.rowB)]
    exact gz_get (q := (0, 0, 0)) rfl i0 (by omega)
  · rw [mstore_ws, mload_ws, mload_ws, ht]
    have c3 : cellOf T S K 3 id = 2 + id := by unfold cellOf; repeat' split; all_goals omega
    have c2 : cellOf T S K 2 0 = 1 := by unfold cellOf; repeat' split; all_goals omega
    refine ⟨hp.good.lset (by decide) 3 id, lat_same (by omega) (hp.good.cell 3 id), ?_⟩
    rw [lat_other (by omega)]
    exact hp.ep
/-- A machine's step. -/
theorem gz3' {M k k' : Nat} {B : List Atom} {f : MS → MS} (h3 : Rz3Ok M k) (hp : PinAt T S K G Q l id 1 s.ws) (i0 : 0 ≤ i) (i1 : i ≤ 90) (hq : inQ (nxQ M k') = true) (hs : ∀ s2 : MS, s2.ws = s.ws → (mcT M k (mcOw M k u bo na wl ++ mA T S K G Q l c s2)).get = some (k', B ++ mA T S K G Q l c (f s2)))
    (hf : ∀ s2 : MS, s2.ws = s.ws → FinZ (pz (nxQ M k') id (i + 1) t (B ++ mA T S K G Q l c (f s2)))) : FinZ (pz (3, M, k) id i t (mcOw M k u bo na wl ++ mA T S K G Q l c s)) := by
  refine FinZ.step (y := pz (nxQ M k') id (i + 1) t (B ++ mA T S K G Q l c (f (mload T S K (mload T S K s 3 id) 2 0)))) ?_ (hf _ rfl)
  rw [h3, Tree.get_br, if_pos (decide_eq_true (by omega)), chk_get hp (.inr ⟨rfl, rfl⟩), Tree.get_bind, hs (mload T S K (mload T S K s 3 id) 2 0) rfl]
  exact gz_get hq i0 (by omega)
/-- The words behind the pin. -/
theorem pinAt_new (hR : Good T S K G Q l (List.replicate l 0)) (h0 : 0 ≤ id) (h1 : id < T) : PinAt T S K G Q l id 1 (lset T S K (List.replicate l 0) 3 id 1) := by
  have hc := hR.cfg
  have c3 : cellOf T S K 3 id = 2 + id := by unfold cellOf; repeat' split; all_goals omega
  have c2 : cellOf T S K 2 0 = 1 := by unfold cellOf; repeat' split; all_goals omega
  exact ⟨hR.lset (by decide) 3 id, lat_same (by omega) (hR.cell 3 id), by rw [lat_other (by omega)]; exact lat_zero⟩
end
section
variable {T S K G Q : Int} {l c : Nat} {id : Int} {t : Nat → Int} {s : MS} {ky sl es eh ew p e : Int} {ec : Nat}
variable (h0 : 0 ≤ id) (h1 : id < T) (ht : t 5 = id) (hg : Good T S K G Q l (List.replicate l 0)) (hz : s.ws = lset T S K (List.replicate l 0) 3 id 1)
include h0 h1 ht hg hz
theorem at_new : PinAt T S K G Q l id 1 s.ws := by
  have _h := ht
  rw [hz]; exact pinAt_new hg h0 h1
theorem zd_done {M : Nat} (h4 : Rz4Ok M) (u : Nat → Int) (bo : Nat → Bool) (na : Nat → Nat) (wl : Nat → List Int) : FinZ (pz (4, M, mcDone M) id 0 t (mcOw M (mcDone M) u bo na wl ++ mA T S K G Q l c s)) :=
  gz4 h4 (by omega) (by omega) h0 h1 ht (at_new h0 h1 ht hg hz)
theorem zs (s2 : MS) (e2 : s2.ws = s.ws) (o : Int) : Good T S K G Q l s2.ws ∧ lat T S K s2.ws 4 o = 0 := by
  have _h := ht
  rw [e2, hz]
  exact ⟨(pinAt_new hg h0 h1).good, pin_st⟩
theorem zd_rd (he : isW eh = true) (hk : okT eh S = true) : FinZ (pz (3, 1, 0) id 0 t (([.i ky, .i sl] ++ enA sl es eh ec false ew) ++ mA T S K G Q l c s)) := by
  rw [← ow_rd]
  refine gz3' (k' := 9) (B := [.i 2]) (f := fun s2 => mload T S K s2 4 sl) rz_3_1_0 (at_new h0 h1 ht hg hz) (by omega) (by omega) rfl (fun s2 e2 => by rw [ow_rd]; exact rd_stale (zs h0 h1 ht hg hz s2 e2 sl).1 he hk (by rw [(zs h0 h1 ht hg hz s2 e2 sl).2]; rfl)) fun s2 e2 => ?_
  rw [← ow_d1 (bo := noB) (na := nL []) (wl := enW)]
  exact gz4 rz_4_1 (by omega) (by omega) h0 h1 ht (by rw [mload_ws, e2]; exact at_new h0 h1 ht hg hz)
theorem zd_wr (he : isW eh = true) (hk : okT eh S = true) : FinZ (pz (3, 2, 0) id 0 t (([.i ky, .i sl] ++ enA sl es eh ec false ew) ++ mA T S K G Q l c s)) := by
  rw [← ow_wr]
  refine gz3' (k' := 11) (B := [.i 2]) (f := fun s2 => mload T S K s2 4 sl) rz_3_2_0 (at_new h0 h1 ht hg hz) (by omega) (by omega) rfl (fun s2 e2 => by rw [ow_wr]; exact wr_stale (zs h0 h1 ht hg hz s2 e2 sl).1 he hk (by rw [(zs h0 h1 ht hg hz s2 e2 sl).2]; rfl)) fun s2 e2 => ?_
  rw [← ow_d2 (bo := noB) (na := nL []) (wl := enW)]
  exact gz4 rz_4_2 (by omega) (by omega) h0 h1 ht (by rw [mload_ws, e2]; exact at_new h0 h1 ht hg hz)
theorem zd_cm (he : isW eh = true) (hk : okT eh S = true) : FinZ (pz (3, 3, 0) id 0 t (([.i sl] ++ enA sl es eh ec false ew) ++ mA T S K G Q l c s)) := by
  rw [← ow_cm]
  refine gz3' (k' := 15) (B := [.i 2, .i 0, .i 0]) (f := fun s2 => mload T S K s2 4 sl) rz_3_3_0 (at_new h0 h1 ht hg hz) (by omega) (by omega) rfl (fun s2 e2 => by rw [ow_cm]; exact cm_stale (zs h0 h1 ht hg hz s2 e2 sl).1 he hk (by rw [(zs h0 h1 ht hg hz s2 e2 sl).2]; rfl)) fun s2 e2 => ?_
  rw [← ow_d3 (bo := noB) (na := nL []) (wl := enW)]
  exact gz4 rz_4_3 (by omega) (by omega) h0 h1 ht (by rw [mload_ws, e2]; exact at_new h0 h1 ht hg hz)
theorem zd_ab (he : isW eh = true) (hk : okT eh S = true) : FinZ (pz (3, 4, 0) id 0 t (([.i sl] ++ enA sl es eh ec false ew) ++ mA T S K G Q l c s)) := by
  rw [← ow_ab]
  refine gz3' (k' := 3) (B := [.i 2, .i 0, .i 0]) (f := fun s2 => mload T S K s2 4 sl) rz_3_4_0 (at_new h0 h1 ht hg hz) (by omega) (by omega) rfl (fun s2 e2 => by rw [ow_ab]; exact ab_stale (zs h0 h1 ht hg hz s2 e2 sl).1 he hk (by rw [(zs h0 h1 ht hg hz s2 e2 sl).2]; rfl)) fun s2 e2 => ?_
  rw [← ow_d4 (bo := noB) (na := nL []) (wl := enW)]
  exact gz4 rz_4_4 (by omega) (by omega) h0 h1 ht (by rw [mload_ws, e2]; exact at_new h0 h1 ht hg hz)
theorem zd_sw {th gn : Int} (he : isW eh = true) (hk : okT eh S = true) : FinZ (pz (3, 5, 0) id 0 t (([.i T, .i S, .i K, .i G, .i Q, .i th, .i sl, .i gn, .b false, .i 0] ++ [.i sl, .i es, .i eh, .n 4, .n ec, .b false, .b false, .i 0, .i ew, .ws [4, 5, 6, 7]]) ++ mA T S K G Q l c s)) := by
  rw [← ow_sw]
  refine gz3' (k' := 20) (B := [.i 2]) (f := fun s2 => mload T S K s2 4 sl) rz_3_5_0 (at_new h0 h1 ht hg hz) (by omega) (by omega) rfl (fun s2 e2 => by rw [ow_sw]; exact sw_stale (zs h0 h1 ht hg hz s2 e2 sl).1 he hk (by rw [(zs h0 h1 ht hg hz s2 e2 sl).2]; rfl)) fun s2 e2 => ?_
  rw [← ow_d5 (bo := noB) (na := nL []) (wl := enW)]
  exact gz4 rz_4_5 (by omega) (by omega) h0 h1 ht (by rw [mload_ws, e2]; exact at_new h0 h1 ht hg hz)
theorem zd_op : FinZ (pz (3, 0, 0) id 0 t (([.i 0, .i 0, .i 0, .i 0, .i 0]) ++ mA T S K G Q l c s)) := by
  have hc := hg.cfg
  have hR := hg.right
  simp only [right, decide_eq_true_eq] at hR
  have a0 := at_new h0 h1 ht hg hz
  have c4 : 0 ≤ cellOf T S K 4 0 := by unfold cellOf; repeat' split; all_goals omega
  have n1 : cellOf T S K 4 0 ≠ cellOf T S K 1 0 := by unfold cellOf; repeat' split; all_goals omega
  have n2 : cellOf T S K 3 id ≠ cellOf T S K 1 0 := by unfold cellOf; repeat' split; all_goals omega
  have tal : lat T S K s.ws 1 0 = 0 := by rw [hz, lat_other n2]; exact lat_zero
  rw [← ow_o0]
  refine gz3' (k' := 1) (B := [.i 0, .i 0, .i 0, .i 0, .i 0, .i 0]) (f := fun s2 => mload T S K s2 4 0) rz_3_0_0 a0 (by omega) (by omega) rfl (fun s2 e2 => by
    have w := (zs h0 h1 ht hg hz s2 e2 0).2
    rw [ow_o0]
    have := o_look (c := c) (zs h0 h1 ht hg hz s2 e2 0).1 (by rw [w]; rfl) (by rw [w]; show (0 : Int) ≤ G; omega)
    rw [w] at this
    exact this) fun s2 e2 => ?_
  have p2 : PinAt T S K G Q l id 1 (mload T S K s2 4 0).ws := by rw [mload_ws, e2]; exact a0
  rw [← ow_o1]
  refine gz3' (k' := 2) (B := [.i 0, .i 0, .i 0, .i 0, .i 0]) (f := fun s3 => mswap T S K s3 4 0 0 (moveI 0 1 false)) rz_3_0_1 p2 (by omega) (by omega) rfl (fun s3 e3 => by
    have e3' : s3.ws = s.ws := e3.trans e2
    rw [ow_o1]
    exact o_take (zs h0 h1 ht hg hz s3 e3' 0).1 rfl (by unfold mok; rw [decide_eq_true c4, mat_lat, (zs h0 h1 ht hg hz s3 e3' 0).2]; rfl)) fun s3 e3 => ?_
  have e3' : s3.ws = s.ws := e3.trans e2
  have p3 : PinAt T S K G Q l id 1 (mswap T S K s3 4 0 0 (moveI 0 1 false)).ws := by
    simp only [mswap]
    split
    · exact (show PinAt T S K G Q l id 1 s3.ws by rw [e3']; exact a0).put (by omega) h0 h1 (by decide)
    · rw [e3']; exact a0
  have t3 : lat T S K (mswap T S K s3 4 0 0 (moveI 0 1 false)).ws 1 0 = 0 := by
    simp only [mswap]
    split
    · exact (lat_other n1).trans (by rw [e3']; exact tal)
    · rw [e3']; exact tal
  rw [← ow_o2]
  refine gz3' (k' := 7) (B := [.i 0, .i 0, .i 0, .i 0, .i 0, .i 0]) (f := fun s4 => mload T S K s4 1 0) rz_3_0_2 p3 (by omega) (by omega) rfl (fun s4 e4 => by
    have t4' : lat T S K s4.ws 1 0 = 0 := by rw [e4]; exact t3
    rw [ow_o2]
    have := o_tally (c := c) (sl := 0) (w := 0) (show Good T S K G Q l s4.ws by rw [e4]; exact p3.good) (by rw [t4']; decide)
    rw [t4'] at this
    exact this) fun s4 e4 => ?_
  have p4 : PinAt T S K G Q l id 1 (mload T S K s4 1 0).ws := by rw [mload_ws, e4]; exact p3
  rw [← ow_o7]
  refine gz3' (k' := 8) (B := [.i 0, .i 0, .i 0, .i 0, .i 0, .i 0]) (f := fun s5 => mstore T S K s5 5 0 0) rz_3_0_7 p4 (by omega) (by omega) rfl (fun s5 e5 => by
    rw [ow_o7]
    exact o_note (show Good T S K G Q l s5.ws by rw [e5]; exact p4.good)) fun s5 e5 => ?_
  have p5 : PinAt T S K G Q l id 1 (mstore T S K s5 5 0 0).ws := by
    rw [mstore_ws]
    exact (show PinAt T S K G Q l id 1 s5.ws by rw [e5]; exact p4).put (by omega) h0 h1 (by decide)
  rw [← ow_o8]
  refine gz3' (k' := 9) (B := [.i 0, .i (mkI 0 (gnI 0)), .i 0]) (f := fun s6 => mstore T S K s6 4 0 (moveI 0 2 false)) rz_3_0_8 p5 (by omega) (by omega) rfl (fun s6 e6 => by
    rw [ow_o8]
    exact o_start (show Good T S K G Q l s6.ws by rw [e6]; exact p5.good) rfl (by decide)) fun s6 e6 => ?_
  rw [← ow_d0 (bo := noB) (na := nL []) (wl := enW)]
  refine gz4 rz_4_0 (by omega) (by omega) h0 h1 ht ?_
  rw [mstore_ws]
  exact (show PinAt T S K G Q l id 1 s6.ws by rw [e6]; exact p5).put (by omega) h0 h1 (by decide)
end
end Go.Proofs.YtifojacfedjedaaGreat.Bound
end
