/- A worked example of a thread: it comes out. No condition. -/
import Derived.Test.YtifojacfedjedaaGreatThFQ
namespace Go.Proofs.YtifojacfedjedaaGreat.Bound
open Go.Proofs.YtifojacfedjedaaGreat.Ev Go.Proofs.YtifojacfedjedaaGreat.ChartMath
set_option linter.unusedVariables false
def eqA : Atom → Atom → Bool
  | .i a, .i b => decide (a = b)
  | .b a, .b b => decide (a = b)
  | .n a, .n b => decide (a = b)
  | .ws a, .ws b => decide (a = b)
  | _, _ => false
theorem eqA_eq {a b : Atom} (h : eqA a b = true) : a = b := by
  cases a <;> cases b <;> simp [eqA] at h <;> rw [h]
def eqAL : List Atom → List Atom → Bool
  | [], [] => true
  | a :: l, b :: m => eqA a b && eqAL l m
  | _, _ => false
theorem eqAL_eq : ∀ {l m : List Atom}, eqAL l m = true → l = m
  | [], [], _ => rfl
  | [], _ :: _, h => by simp [eqAL] at h
  | _ :: _, [], h => by simp [eqAL] at h
  | a :: l, b :: m, h => by
    simp only [eqAL, Bool.and_eq_true] at h
    rw [eqA_eq h.1, eqAL_eq h.2]
def aOut (m : Nat) : SPat := ⟨[(0, i6)], 1, thB 0 0 0 0 (m + 2) ++ memBk m, m + 2, upTo (m + 2) []⟩
def aCfg : List Atom := [.i 1, .i 1, .i 1, .i 9, .i 9]
def aMem (tk ts : Int) (told : Int) (td : Bool) (many : Int) (ws : List Int) : List Atom := aCfg ++ [.n 8, .n 8, .i tk, .i ts, .i 0, .i told, .i 0, .b td, .i many, .ws ws]
def aF1 : FForm := ⟨[.ptr 0 0 none, .ptr 4 0 none, i6], [(0, 113, .vals [i6, i6, i6, i6, u6, i6, bnd 35 0, .ptr 1 0 none, .iface (mcTy 0) (.ptr 2 0 none), i6, u6, u6]), pinB 1 1, (2, 194, .vals [bnd 82 2, .func 132 [] [.ptr 3 0 none], i6, u6, u6, .nilPtr, i6, u6, u6]), (3, 3, .vals [i6])] ++ memBk 4, [aOut 4]⟩
def a1x : List Atom := .i 100 :: (aCfg ++ [.i 0, .i 0, .i 0, .i 0, .i 0, .i 0, .i 0, .i 0, .i 0, .i 0, .i 0, .i 0, .i 0] ++ aMem 0 0 0 false 0 [0, 0, 0, 0, 0, 0, 0, 0])
def a1y : List Atom := .i 8 :: (aCfg ++ [.i 0, .i 0, .i 1, .i 0] ++ aMem 2 3 1 true 8 [0, 0, 0, 268435456, 0, 0, 0, 0])
def aF2 : FForm := ⟨[.ptr 0 0 none, .ptr 7 0 none, i6], [(0, 113, partC 12 (thKnown 1 3 0 1 2)), pinB 1 1, (2, 208, .vals [.func 146 [] [.ptr 3 0 none, .ptr 4 0 none], i6, .ptr 5 0 none, .nilPtr, i6, u6, u6, u6, u6, .nilPtr]), clB 2 3, (4, 108, .vals [bnd 88 2])] ++ enB 5 ++ memBk 7, [aOut 7]⟩
def a2x : List Atom := .i 100 :: (aCfg ++ [.i 0, .i 0, .i 1, .i 0, .i 0, .i 0, .i 0, .i 0, .i 0, .i 0, .i 0, .i 0, .i 0, .i 0, .i 1, .n 1, .n 1, .b false, .b false, .i 0, .i 0, .ws [2]] ++ aMem 2 3 1 true 8 [0, 0, 0, 268435456, 0, 0, 0, 0])
def a2y : List Atom := .i 15 :: (aCfg ++ [.i 0, .i 0, .i 0, .i 1] ++ aMem 2 3 1 true 23 [16, 0, 0, 536870912, 0, 1, 0, 0])
set_option maxRecDepth 100000 in
theorem a1_ev : (endF (ev noSums 100000 18) aF1 a1x).get = some (0, a1y) := by kernel_rfl
set_option maxRecDepth 100000 in
theorem a2_ev : (endF (ev noSums 100000 18) aF2 a2x).get = some (0, a2y) := by kernel_rfl
def aO (x0 y0 : List Atom) (x : List Atom) : Tree (Nat × List Atom) := .br (eqAL x x0) (.leaf (0, y0)) .bad
theorem aO_st {F : FForm} {x0 y0 : List Atom} (h0 : (endF (ev noSums 100000 18) F x0).get = some (0, y0)) (x : List Atom) (r : Nat × List Atom) (h : (aO x0 y0 x).get = some r) : (endF (ev noSums 100000 18) F x).get = some r := by
  obtain ⟨h1, h2⟩ := get_br h
  rw [eqAL_eq h1, h0]
  exact h2
def anyG (l : List FForm) (args : List Value) (H : TH) : Bool := match l with
  | [] => false
  | F :: l => (matF F args H).isSome || anyG l args H
noncomputable def sumsAl : Sums := withCall noSums 18 (canon (orSum (fun args H => anyG [aF1, aF2] args H) (tsums [(aF1, aO a1x a1y), (aF2, aO a2x a2y)]) (ev noSums 100000 18)))
theorem sumsAl_ok : SumsOk sumsAl := withCall_ok noSums_ok (canon_ok (orSum_ok (tsums_ok (ev_sound noSums_ok 100000 _) fun a ha => by
  simp only [List.mem_cons, List.not_mem_nil, or_false] at ha
  rcases ha with rfl | rfl
  · exact aO_st a1_ev
  · exact aO_st a2_ev) (ev_sound noSums_ok 100000 _))) (by kernel_rfl)
set_option maxRecDepth 100000 in
theorem alive_ev : outV (ev sumsAl 100000 11 [] ⟨.nil, 0⟩) = some (.bool true) := by kernel_rfl
def aliveS : List Value → Option Value
  | [] => some (.bool true)
  | _ => none
theorem aliveS_ok {sums : Sums} (hs : SumsOk sums) : SumsOk (withPure sums 11 aliveS) := withPure_ok hs sumsAl_ok 100000 (by kernel_rfl) fun al v h => by
  unfold aliveS at h
  split at h
  · cases h; exact ⟨rfl, rfl, alive_ev⟩
  · cases h
end Go.Proofs.YtifojacfedjedaaGreat.Bound
