/- The law BoundNumbers: the numbers of any world are what the document says; more threads, slots or keys have no lower ones. No condition. -/
import Derived.Test.YtkgofabpmppglaaGreatBNum
namespace Go.Proofs.YtkgofabpmppglaaGreat.Pure
open Go.RowKit Go.Proofs.YtkgofabpmppglaaGreat.Ev Go.Proofs.YtkgofabpmppglaaGreat.Bound
set_option linter.unusedVariables false
theorem alive_is : outV (ev noSums 100 11 [] ⟨.nil, 0⟩) = some (.bool true) := by kernel_rfl
def aliveS : List Value → Option Value
  | [] => some (.bool true)
  | _ => none
noncomputable def sumsA : Sums := withPure sums4 11 aliveS
theorem sumsA_ok : SumsOk sumsA := withPure_ok sums4_ok noSums_ok 100 (by kernel_rfl) fun al v h => by
  unfold aliveS at h
  split at h
  · cases h; exact ⟨rfl, rfl, alive_is⟩
  · cases h
/-- The numbers of a world that is right. -/
def chgC (T S K : Int) : Int := IntKind.i64.wrap (T * IntKind.i64.wrap (IntKind.i64.wrap (IntKind.i64.wrap (3 * S) + K) + 16))
def soloC (T S K : Int) : Int := IntKind.i64.wrap (IntKind.i64.wrap (IntKind.i64.wrap (IntKind.i64.wrap (100 + IntKind.i64.wrap (20 * S)) + IntKind.i64.wrap (10 * K)) + IntKind.i64.wrap (4 * T)) + IntKind.i64.wrap (IntKind.i64.wrap (chgC T S K + 2) * IntKind.i64.wrap (IntKind.i64.wrap (4 * S) + 40)))
def bndC (T S K : Int) : Int := IntKind.i64.wrap (T * IntKind.i64.wrap (soloC T S K + 1))
def refC (T S K : Int) : Int := IntKind.i64.wrap (IntKind.i64.wrap (T * soloC T S K) + T)
theorem all_same : ∀ t : Fin 8, ∀ s : Fin 12, ∀ k : Fin 8, bndC (t.val + 1 : Nat) (s.val + 1 : Nat) (k.val + 1 : Nat) = refC (t.val + 1 : Nat) (s.val + 1 : Nat) (k.val + 1 : Nat) := by decide +kernel
theorem all_more : ∀ t : Fin 7, ∀ s : Fin 11, ∀ k : Fin 7, bndC (t.val + 1 : Nat) (s.val + 1 : Nat) (k.val + 1 : Nat) < bndC (t.val + 2 : Nat) (s.val + 2 : Nat) (k.val + 2 : Nat) := by decide +kernel
theorem nat_of {x : Int} {n : Nat} (h1 : 1 ≤ x) (h2 : x ≤ n) : ∃ t : Fin n, x = (t.val + 1 : Nat) := ⟨⟨(x - 1).toNat, by omega⟩, by simp; omega⟩
theorem right_iff {T S K G Q : Int} : right T S K G Q = true ↔ 1 ≤ T ∧ T ≤ 8 ∧ 1 ≤ S ∧ S ≤ 12 ∧ 1 ≤ K ∧ K ≤ 8 ∧ 0 ≤ G ∧ G ≤ 1073741823 ∧ Q ≤ 1099511627775 := by simp [right]
theorem bnd_right {T S K G Q : Int} (h : right T S K G Q = true) : bnd T S K G Q = bndC T S K ∧ refbnd T S K G Q = refC T S K := by
  simp [bnd, refbnd, solo, chg, h, bndC, refC, soloC, chgC]
theorem bnd_ref (T S K G Q : Int) : bnd T S K G Q = refbnd T S K G Q := by
  cases h : right T S K G Q with
  | false => simp [bnd, refbnd, h]
  | true =>
    obtain ⟨h1, h2⟩ := bnd_right h
    rw [h1, h2]
    obtain ⟨a1, a2, b1, b2, c1, c2, _⟩ := right_iff.1 h
    obtain ⟨t, rfl⟩ := nat_of (n := 8) a1 a2
    obtain ⟨s, rfl⟩ := nat_of (n := 12) b1 b2
    obtain ⟨k, rfl⟩ := nat_of (n := 8) c1 c2
    exact all_same t s k
theorem bnd_more {a b c G Q : Int} (h : right a b c G Q = true) (h2 : right (IntKind.i64.wrap (a + 1)) (IntKind.i64.wrap (b + 1)) (IntKind.i64.wrap (c + 1)) G Q = true) : bnd a b c G Q < bnd (IntKind.i64.wrap (a + 1)) (IntKind.i64.wrap (b + 1)) (IntKind.i64.wrap (c + 1)) G Q := by
  rw [(bnd_right h).1, (bnd_right h2).1]
  obtain ⟨a1, a2, b1, b2, c1, c2, _⟩ := right_iff.1 h
  have w : ∀ x : Int, 1 ≤ x → x ≤ 12 → IntKind.i64.wrap (x + 1) = x + 1 := fun x h1 h2 => by rw [IntKind.wrap_i64]; omega
  rw [w a a1 (by omega), w b b1 b2, w c c1 (by omega)] at h2 ⊢
  obtain ⟨_, a3, _, b3, _, c3, _⟩ := right_iff.1 h2
  obtain ⟨t, rfl⟩ := nat_of (n := 7) a1 (by omega)
  obtain ⟨s, rfl⟩ := nat_of (n := 11) b1 (by omega)
  obtain ⟨k, rfl⟩ := nat_of (n := 7) c1 (by omega)
  exact all_more t s k
theorem law_is (T S K G Q : Int) : outV (ev sumsA 100 3 [.agg #[.int .i64 T, .int .i64 S, .int .i64 K, .int .i64 G, .int .u64 Q]] ⟨.nil, 0⟩) = some (.bool true) := by
  have key : ∀ (a b c : Int), outV (ev sumsA 100 3 [.agg #[.int .i64 T, .int .i64 S, .int .i64 K, .int .i64 G, .int .u64 Q]] ⟨.nil, 0⟩) =
    bif chg T S K G Q != chg T S K G Q then some (.bool false) else
    bif bif false then true else solo T S K G Q != solo T S K G Q then some (.bool false) else
    bif bif false then true else bnd T S K G Q != refbnd T S K G Q then some (.bool false) else
    bif !right (IntKind.i64.wrap (IntKind.i64.wrap ↑(BitVec.ofInt IntKind.i64.bits T &&& BitVec.ofInt IntKind.i64.bits 7).toNat + 1)) (IntKind.i64.wrap (S.tmod 12 + 1)) (IntKind.i64.wrap (IntKind.i64.wrap ↑(BitVec.ofInt IntKind.i64.bits K &&& BitVec.ofInt IntKind.i64.bits 7).toNat + 1)) G Q then some (.bool true) else
    bif bif false then true else !right (IntKind.i64.wrap (IntKind.i64.wrap (IntKind.i64.wrap ↑(BitVec.ofInt IntKind.i64.bits T &&& BitVec.ofInt IntKind.i64.bits 7).toNat + 1) + 1)) (IntKind.i64.wrap (IntKind.i64.wrap (S.tmod 12 + 1) + 1)) (IntKind.i64.wrap (IntKind.i64.wrap (IntKind.i64.wrap ↑(BitVec.ofInt IntKind.i64.bits K &&& BitVec.ofInt IntKind.i64.bits 7).toNat + 1) + 1)) G Q then some (.bool true) else
    some (.bool (bif true then bif false then true else decide (bnd (IntKind.i64.wrap (IntKind.i64.wrap ↑(BitVec.ofInt IntKind.i64.bits T &&& BitVec.ofInt IntKind.i64.bits 7).toNat + 1)) (IntKind.i64.wrap (S.tmod 12 + 1)) (IntKind.i64.wrap (IntKind.i64.wrap ↑(BitVec.ofInt IntKind.i64.bits K &&& BitVec.ofInt IntKind.i64.bits 7).toNat + 1)) G Q < bnd (IntKind.i64.wrap (IntKind.i64.wrap (IntKind.i64.wrap ↑(BitVec.ofInt IntKind.i64.bits T &&& BitVec.ofInt IntKind.i64.bits 7).toNat + 1) + 1)) (IntKind.i64.wrap (IntKind.i64.wrap (S.tmod 12 + 1) + 1)) (IntKind.i64.wrap (IntKind.i64.wrap (IntKind.i64.wrap ↑(BitVec.ofInt IntKind.i64.bits K &&& BitVec.ofInt IntKind.i64.bits 7).toNat + 1) + 1)) G Q) else false)) := by
    intro a b c
    kernel_rfl
  rw [key 0 0 0]
  clear key
  generalize IntKind.i64.wrap (IntKind.i64.wrap ↑(BitVec.ofInt IntKind.i64.bits T &&& BitVec.ofInt IntKind.i64.bits 7).toNat + 1) = a
  generalize IntKind.i64.wrap (S.tmod 12 + 1) = b
  generalize IntKind.i64.wrap (IntKind.i64.wrap ↑(BitVec.ofInt IntKind.i64.bits K &&& BitVec.ofInt IntKind.i64.bits 7).toNat + 1) = c
  rw [bnd_ref T S K G Q]
  simp only [bne_self_eq_false, cond_false, cond_true]
  cases h1 : right a b c G Q with
  | false => rfl
  | true =>
    cases h2 : right (IntKind.i64.wrap (a + 1)) (IntKind.i64.wrap (b + 1)) (IntKind.i64.wrap (c + 1)) G Q with
    | false => rfl
    | true => simp only [Bool.not_true, cond_false, decide_eq_true (bnd_more h1 h2)]
theorem walkBoundNumbers (W : World) (T S K G Q : Int) (wT : (Lit.int .i64 T).wf = true) (wS : (Lit.int .i64 S).wf = true) (wK : (Lit.int .i64 K).wf = true) (wG : (Lit.int .i64 G).wf = true) (wQ : (Lit.int .u64 Q).wf = true) :
    Calls Tryz.prog 3 #[.agg #[.int .i64 T, .int .i64 S, .int .i64 K, .int .i64 G, .int .u64 Q]] W fun e W' => e = .returned (.bool true) ∧ Below W.heap.size W W' :=
  calls_plain sumsA_ok 100 _ _ _ rfl rfl (law_is T S K G Q) W
end Go.Proofs.YtkgofabpmppglaaGreat.Pure
