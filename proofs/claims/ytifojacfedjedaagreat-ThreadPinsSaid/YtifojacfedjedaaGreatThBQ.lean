/- The law ThreadBusy: the loop, by kinds of a thread's state: forms, and each round. No condition. -/
import Derived.Test.YtifojacfedjedaaGreatThPQ
import Derived.Test.YtifojacfedjedaaGreatSwNewQ
import Derived.Test.YtifojacfedjedaaGreatThAliveQ
namespace Go.Proofs.YtifojacfedjedaaGreat.Bound
open Go.Proofs.YtifojacfedjedaaGreat.Ev Go.Proofs.YtifojacfedjedaaGreat.ChartMath
set_option linter.unusedVariables false
set_option linter.unusedSimpArgs false
/-- The kinds of a thread's state that are met over new words. -/
def thQ : List (Nat × Nat × Nat) := [(0, 0, 0), (1, 0, 0), (1, 1, 0), (1, 1, 9), (1, 2, 0), (1, 2, 11), (1, 3, 0), (1, 3, 15), (1, 4, 0), (1, 4, 3), (1, 5, 0), (1, 5, 20), (2, 0, 0), (2, 1, 0), (2, 1, 9), (2, 2, 0), (2, 2, 11), (2, 3, 0), (2, 3, 15), (2, 4, 0), (2, 4, 3), (2, 5, 0), (2, 5, 20), (3, 0, 0), (3, 0, 1), (3, 0, 2), (3, 0, 7), (3, 0, 8), (3, 1, 0), (3, 2, 0), (3, 3, 0), (3, 4, 0), (3, 5, 0), (4, 0, 9), (4, 1, 9), (4, 2, 11), (4, 3, 15), (4, 4, 3), (4, 5, 20)]
def qIx (q : Nat × Nat × Nat) : List (Nat × Nat × Nat) → Nat → Option Nat
  | [], _ => none
  | p :: l, n => cond (Nat.beq p.1 q.1 && (Nat.beq p.2.1 q.2.1 && Nat.beq p.2.2 q.2.2)) (some n) (qIx q l (n + 1))
def qD (q : Nat × Nat × Nat) : Nat := (qIx q thQ 0).getD 0
def idxF (f : Nat) : List Nat → Nat → List Nat
  | [], _ => []
  | g :: l, k => cond (Nat.beq g f) (k :: idxF f l (k + 1)) (idxF f l (k + 1))
def cell0 (s : St) (i j : Nat) : Option Value := match s.H.get i with
  | some ⟨_, .vals l⟩ => nth l j
  | some ⟨_, .part l _⟩ => nth l j
  | _ => none
def fnOf : Option Value → Nat
  | some (.func (.func f) _ _) => f
  | _ => 0
def blkOf : Option Value → Nat
  | some (.pointer (some ⟨i, _, _⟩)) => i
  | some (.iface _ (.pointer (some ⟨i, _, _⟩))) => i
  | _ => 0
def isNilF : Option Value → Bool
  | some .nilFunc => true
  | _ => false
/-- A machine's step functions, by kinds. -/
def mcFn (M : Nat) : List Nat := nthD [] [opFn, [85], [86], [146], [146], [91]] M
def mcOf (v : Option Value) : Nat := match v with
  | some (.iface t _) => ((idxF t [mcTy 0, mcTy 1, mcTy 2, mcTy 3, mcTy 4, mcTy 5] 0)).headD 9
  | _ => 9
/-- A machine's kinds, by its block. -/
def mKinds (s : St) (M i : Nat) : List Nat := cond (isNilF (cell0 s i 0)) [mcDone M] (idxF (fnOf (cell0 s i 0)) (mcFn M) 0)
/-- A thread's kinds, by its block. -/
def thKinds (s : St) (i : Nat) : List (Nat × Nat × Nat) :=
  let M := mcOf (cell0 s i 8)
  let ks := mKinds s M (blkOf (cell0 s i 8))
  cond (isNilF (cell0 s i 6)) [(0, 0, 0)] (cond (Nat.beq (fnOf (cell0 s i 6)) 35) (ks.map fun k => (cond (Nat.beq (fnOf (cell0 s (blkOf (cell0 s i 7)) 0)) 62) 1 2, M, k))
    (ks.map fun k => (cond (Nat.beq (fnOf (cell0 s i 6)) 93) 3 4, M, k)))
def qSel (s : St) (t : Nat) : List Nat := (thKinds s (blkOf (s.T.get t))).flatMap fun q => match qIx q thQ 0 with
  | some n => [n]
  | none => []
def bzP (q : Nat × Nat × Nat) : SPat :=
  let m := 1 + thLen q.1 q.2.1 q.2.2
  ⟨[(9, .ptr 0 0 none), (7, .ptr m 0 none), (5, .ptr (m + 2) 0 none), (54, i6)], 93, thB q.1 q.2.1 q.2.2 0 1 ++ memBk m ++ [(m + 2, 26, .vals [i6, u6, i6])], m + 3, []⟩
def bzE : SPat := ⟨[(9, .ptr 0 0 none), (7, .ptr 1 0 none)], 93, thB 0 0 0 0 1 ++ memBk 1, 3, []⟩
def BZ : SForm := ⟨⟨thQ.map fun q => ([9, 7, 5, 54], bzP q), [(0, [([9, 7], bzE)])], []⟩, fun e s => match e with
  | .normal => qSel s 9
  | _ => [0]⟩
def bz (q : Nat × Nat × Nat) (i : Int) (t : Nat → Int) (x : List Atom) (b0 b1 b2 : Int) : List Atom := .n (qD q) :: .i i :: (thA t ++ (x ++ [.i b0, .i b1, .i b2]))
noncomputable def sumsBz : Sums := withPure (withNew sumsTh) 11 aliveS
theorem sumsBz_ok : SumsOk sumsBz := aliveS_ok (withNew_ok sumsTh_ok)
noncomputable def rdB : List Atom → Tree (Ex × List Atom) := roundS sumsBz 60 6 8 0 BZ
def inQ (q : Nat × Nat × Nat) : Bool := (qIx q thQ 0).isSome
/-- What comes behind a machine's step, or its pin. -/
def nxQ (M k : Nat) : Nat × Nat × Nat := (cond (Nat.beq k (mcDone M)) 4 3, M, k)
def goB (q : Nat × Nat × Nat) (i : Int) (t : Nat → Int) (x : List Atom) (b0 b1 b2 : Int) : Tree (Ex × List Atom) := cond (inQ q) (.leaf (.normal, bz q (IntKind.i64.wrap (i + 1)) t x b0 b1 b2)) .bad
def ansB (t : Nat → Int) (r : Tree (Ex × List Atom)) : Tree (Ex × List Atom) := .br (bif true then bif false then true else !(t 6 == 0 && (t 7 == 0 && (t 8 == 0 && true))) else false) .bad r
def Rb3Ok (M k : Nat) : Prop := ∀ (i : Int) (t u : Nat → Int) (bo : Nat → Bool) (na : Nat → Nat) (wl : Nat → List Int) (b0 b1 b2 T S K G Q : Int) (l c : Nat) (s : MS), (rdB (bz (3, M, k) i t (mcOw M k u bo na wl ++ mA T S K G Q l c s) b0 b1 b2)).get = (Tree.br (decide (i < 100)) (ansB t ((mcT M k (mcOw M k u bo na wl ++ mA T S K G Q l c s)).bind fun r => goB (nxQ M r.1) i t r.2 b0 b1 b2)) .bad).get
def Rb1Ok (M k : Nat) : Prop := ∀ (p e i : Int) (t u : Nat → Int) (bo : Nat → Bool) (na : Nat → Nat) (wl : Nat → List Int) (b0 b1 b2 T S K G Q : Int) (l c : Nat) (s : MS), (rdB (bz (1, M, k) i t (pinA p e ++ (mcOw M k u bo na wl ++ mA T S K G Q l c s)) b0 b1 b2)).get = (Tree.br (decide (i < 100)) (ansB t (.br (rowB T S K G Q l s) (goB (2, M, k) i t (pinA p (mat T S K s 2 0) ++ (mcOw M k u bo na wl ++ mA T S K G Q l c (mload T S K s 2 0))) b0 b1 b2) .bad)) .bad).get
def Rb2Ok (M k : Nat) : Prop := ∀ (p e i : Int) (t u : Nat → Int) (bo : Nat → Bool) (na : Nat → Nat) (wl : Nat → List Int) (b0 b1 b2 T S K G Q : Int) (l c : Nat) (s : MS), (rdB (bz (2, M, k) i t (pinA p e ++ (mcOw M k u bo na wl ++ mA T S K G Q l c s)) b0 b1 b2)).get = (Tree.br (decide (i < 100)) (ansB t (.br (rowB T S K G Q l s) (goB (nxQ M k) i t (mcOw M k u bo na wl ++ mA T S K G Q l c (mstore T S K s 3 p (IntKind.u64.wrap (e + 1)))) b0 b1 b2) .bad)) .bad).get
/-- A thread that was told something. -/
def t4 (t : Nat → Int) (M : Nat) (u : Nat → Int) (j : Nat) : Int := nthD 0 [t 0, t 1, t 2, t 3, t 4, t 5, tell M u 0, tell M u 1, tell M u 2] j
def Rb4Ok (M : Nat) : Prop := ∀ (i : Int) (t u : Nat → Int) (bo : Nat → Bool) (na : Nat → Nat) (wl : Nat → List Int) (b0 b1 b2 T S K G Q : Int) (l c : Nat) (s : MS), (rdB (bz (4, M, mcDone M) i t (mcOw M (mcDone M) u bo na wl ++ mA T S K G Q l c s) b0 b1 b2)).get = (Tree.br (decide (i < 100)) (ansB t (.br (rowB T S K G Q l s) (goB (0, 0, 0) i (t4 t M u) (mA T S K G Q l c (mstore T S K s 3 (t 5) 0)) b0 b1 b2) .bad)) .bad).get
theorem rb_0 (i : Int) (t : Nat → Int) (b0 b1 b2 T S K G Q : Int) (l c : Nat) (s : MS) : (rdB (bz (0, 0, 0) i t (mA T S K G Q l c s) b0 b1 b2)).get = (Tree.br (decide (i < 100)) (goB (0, 0, 0) i t (mA T S K G Q l c s) b0 b1 b2) (.leaf (.exit 0, .n 0 :: (thA t ++ mA T S K G Q l c s)))).get := by kernel_rfl
theorem rb_1_0_0 : Rb1Ok 0 0 := fun p e i t u bo na wl b0 b1 b2 T S K G Q l c s => by kernel_rfl
theorem rb_1_1_0 : Rb1Ok 1 0 := fun p e i t u bo na wl b0 b1 b2 T S K G Q l c s => by kernel_rfl
theorem rb_1_1_9 : Rb1Ok 1 9 := fun p e i t u bo na wl b0 b1 b2 T S K G Q l c s => by kernel_rfl
theorem rb_1_2_0 : Rb1Ok 2 0 := fun p e i t u bo na wl b0 b1 b2 T S K G Q l c s => by kernel_rfl
theorem rb_1_2_11 : Rb1Ok 2 11 := fun p e i t u bo na wl b0 b1 b2 T S K G Q l c s => by kernel_rfl
theorem rb_1_3_0 : Rb1Ok 3 0 := fun p e i t u bo na wl b0 b1 b2 T S K G Q l c s => by kernel_rfl
theorem rb_1_3_15 : Rb1Ok 3 15 := fun p e i t u bo na wl b0 b1 b2 T S K G Q l c s => by kernel_rfl
theorem rb_1_4_0 : Rb1Ok 4 0 := fun p e i t u bo na wl b0 b1 b2 T S K G Q l c s => by kernel_rfl
theorem rb_1_4_3 : Rb1Ok 4 3 := fun p e i t u bo na wl b0 b1 b2 T S K G Q l c s => by kernel_rfl
theorem rb_1_5_0 : Rb1Ok 5 0 := fun p e i t u bo na wl b0 b1 b2 T S K G Q l c s => by kernel_rfl
theorem rb_1_5_20 : Rb1Ok 5 20 := fun p e i t u bo na wl b0 b1 b2 T S K G Q l c s => by kernel_rfl
theorem rb_2_0_0 : Rb2Ok 0 0 := fun p e i t u bo na wl b0 b1 b2 T S K G Q l c s => by kernel_rfl
theorem rb_2_1_0 : Rb2Ok 1 0 := fun p e i t u bo na wl b0 b1 b2 T S K G Q l c s => by kernel_rfl
theorem rb_2_1_9 : Rb2Ok 1 9 := fun p e i t u bo na wl b0 b1 b2 T S K G Q l c s => by kernel_rfl
theorem rb_2_2_0 : Rb2Ok 2 0 := fun p e i t u bo na wl b0 b1 b2 T S K G Q l c s => by kernel_rfl
theorem rb_2_2_11 : Rb2Ok 2 11 := fun p e i t u bo na wl b0 b1 b2 T S K G Q l c s => by kernel_rfl
theorem rb_2_3_0 : Rb2Ok 3 0 := fun p e i t u bo na wl b0 b1 b2 T S K G Q l c s => by kernel_rfl
theorem rb_2_3_15 : Rb2Ok 3 15 := fun p e i t u bo na wl b0 b1 b2 T S K G Q l c s => by kernel_rfl
theorem rb_2_4_0 : Rb2Ok 4 0 := fun p e i t u bo na wl b0 b1 b2 T S K G Q l c s => by kernel_rfl
theorem rb_2_4_3 : Rb2Ok 4 3 := fun p e i t u bo na wl b0 b1 b2 T S K G Q l c s => by kernel_rfl
theorem rb_2_5_0 : Rb2Ok 5 0 := fun p e i t u bo na wl b0 b1 b2 T S K G Q l c s => by kernel_rfl
theorem rb_2_5_20 : Rb2Ok 5 20 := fun p e i t u bo na wl b0 b1 b2 T S K G Q l c s => by kernel_rfl
theorem rb_3_0_0 : Rb3Ok 0 0 := fun i t u bo na wl b0 b1 b2 T S K G Q l c s => by kernel_rfl
theorem rb_3_0_1 : Rb3Ok 0 1 := fun i t u bo na wl b0 b1 b2 T S K G Q l c s => by kernel_rfl
theorem rb_3_0_2 : Rb3Ok 0 2 := fun i t u bo na wl b0 b1 b2 T S K G Q l c s => by kernel_rfl
theorem rb_3_0_7 : Rb3Ok 0 7 := fun i t u bo na wl b0 b1 b2 T S K G Q l c s => by kernel_rfl
theorem rb_3_0_8 : Rb3Ok 0 8 := fun i t u bo na wl b0 b1 b2 T S K G Q l c s => by kernel_rfl
theorem rb_3_1_0 : Rb3Ok 1 0 := fun i t u bo na wl b0 b1 b2 T S K G Q l c s => by kernel_rfl
theorem rb_3_2_0 : Rb3Ok 2 0 := fun i t u bo na wl b0 b1 b2 T S K G Q l c s => by kernel_rfl
theorem rb_3_3_0 : Rb3Ok 3 0 := fun i t u bo na wl b0 b1 b2 T S K G Q l c s => by kernel_rfl
theorem rb_3_4_0 : Rb3Ok 4 0 := fun i t u bo na wl b0 b1 b2 T S K G Q l c s => by kernel_rfl
theorem rb_3_5_0 : Rb3Ok 5 0 := fun i t u bo na wl b0 b1 b2 T S K G Q l c s => by kernel_rfl
theorem rb_4_0_9 : Rb4Ok 0 := fun i t u bo na wl b0 b1 b2 T S K G Q l c s => by kernel_rfl
theorem rb_4_1_9 : Rb4Ok 1 := fun i t u bo na wl b0 b1 b2 T S K G Q l c s => by kernel_rfl
theorem rb_4_2_11 : Rb4Ok 2 := fun i t u bo na wl b0 b1 b2 T S K G Q l c s => by kernel_rfl
theorem rb_4_3_15 : Rb4Ok 3 := fun i t u bo na wl b0 b1 b2 T S K G Q l c s => by kernel_rfl
theorem rb_4_4_3 : Rb4Ok 4 := fun i t u bo na wl b0 b1 b2 T S K G Q l c s => by kernel_rfl
theorem rb_4_5_20 : Rb4Ok 5 := fun i t u bo na wl b0 b1 b2 T S K G Q l c s => by kernel_rfl

end Go.Proofs.YtifojacfedjedaaGreat.Bound
