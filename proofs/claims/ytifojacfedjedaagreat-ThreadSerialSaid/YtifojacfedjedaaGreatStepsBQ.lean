/- What holds ahead of each step of an age, and behind it. Conditions stand in the statements. -/
import Derived.Test.YtifojacfedjedaaGreatAlikeTQ
namespace Go.Proofs.YtifojacfedjedaaGreat.Bound
open Go.Proofs.YtifojacfedjedaaGreat.Ev Go.Proofs.YtifojacfedjedaaGreat.ChartMath
set_option linter.unusedVariables false
set_option linter.unusedSimpArgs false
/-- All words are within their range. -/
def mwords (s : MS) : Prop := ∀ w ∈ s.ws, 0 ≤ w ∧ w < 18446744073709551616
theorem mat_word {T S K : Int} {s : MS} {k o : Int} (h : mwords s) : 0 ≤ mat T S K s k o ∧ mat T S K s k o < 18446744073709551616 := by
  unfold mat
  split
  · rw [List.getD_eq_getElem?_getD]
    cases hx : s.ws[(cellOf T S K k o).toNat]? with
    | none => exact ⟨by simp, by simp⟩
    | some w => exact h w (List.mem_of_getElem? hx)
  · exact ⟨by omega, by omega⟩
theorem mwords_store {T S K : Int} {s : MS} {k o v : Int} (h : mwords s) (hv : 0 ≤ v ∧ v < 18446744073709551616) : mwords (mstore T S K s k o v) := by
  intro w hw
  simp only [mstore, mset] at hw
  split at hw
  · rcases List.mem_or_eq_of_mem_set hw with hw | rfl
    · exact h w hw
    · exact hv
  · exact h w hw
/-- What is written meanwhile is within its range. -/
def pokesOk (rs : List (List Int)) : Prop := ∀ p ∈ rs, 0 ≤ p.getD 3 0 ∧ p.getD 3 0 < 18446744073709551616
theorem pokes_words {T S K step : Int} : ∀ {rs : List (List Int)} {s : MS}, pokesOk rs → mwords s → mwords (pokesM T S K step rs s)
  | [], s, _, h => h
  | p :: ps, s, hp, h => by
    simp only [pokesM]
    refine pokes_words (fun q hq => hp q (by simp [hq])) ?_
    split
    · exact mwords_store h (hp p (by simp))
    · exact h
theorem pokes_row {T S K G Q step : Int} {l : Nat} : ∀ {rs : List (List Int)} {s : MS}, rowB T S K G Q l (pokesM T S K step rs s) = rowB T S K G Q l s
  | [], s => rfl
  | p :: ps, s => by
    simp only [pokesM]
    rw [pokes_row]
    split
    · exact rowB_store
    · rfl
theorem bool_cases (b : Bool) : b = true ∨ b = false := by cases b <;> simp
theorem ge_not (a b : Int) : decide (a ≥ b) = !decide (a < b) := by
  by_cases h : a < b
  · rw [decide_eq_true h, decide_eq_false (by omega)]; rfl
  · rw [decide_eq_false h, decide_eq_true (by omega)]; rfl
/-- What holds ahead of each step, whatever machine it is. -/
structure Base (T S K G Q : Int) (l : Nat) (rs : List (List Int)) (n : Nat) (len k : Int) (s : MS) : Prop where
  row : rowB T S K G Q l s = true
  words : mwords s
  pokes : pokesOk rs
  many : rs.length = n
  few : n ≤ 1000
  k0 : 0 ≤ k
  kl : k ≤ len
  short : len ≤ 1000
theorem base_more {T S K G Q : Int} {l : Nat} {rs : List (List Int)} {n : Nat} {len k : Int} {s : MS} (h : Base T S K G Q l rs n len k s) :
    (1 ≤ T ∧ T ≤ 8 ∧ 1 ≤ S ∧ S ≤ 12 ∧ 1 ≤ K ∧ K ≤ 8) ∧ IntKind.i64.wrap (k + 1) = k + 1 ∧ rowB T S K G Q l (pokesM T S K k rs s) = true ∧ mwords (pokesM T S K k rs s) ∧ Nat.beq (pokesM T S K k rs s).ws.length l = true ∧
    decide (T = T ∧ S = S ∧ K = K ∧ G = G ∧ Q = Q ∧ l = l ∧ l = l ∧ rs.length = n ∧ n ≤ 100000) = true := by
  have hp : rowB T S K G Q l (pokesM T S K k rs s) = true := by rw [pokes_row]; exact h.row
  obtain ⟨hR, hl, _⟩ := rowB_row hp
  obtain ⟨t1, t2, s1, s2, k1, k2, _⟩ := right_iff.1 hR
  have h1 := h.k0
  have h2 := h.kl
  have h3 := h.short
  refine ⟨⟨t1, t2, s1, s2, k1, k2⟩, by rw [IntKind.wrap_i64]; omega, hp, pokes_words h.pokes h.words, by rw [hl]; exact Nat.beq_refl _, ?_⟩
  exact decide_eq_true ⟨rfl, rfl, rfl, rfl, rfl, rfl, rfl, h.many, by have := h.few; omega⟩
theorem base_next {T S K G Q : Int} {l : Nat} {rs : List (List Int)} {n : Nat} {len k : Int} {s s' : MS} (h : Base T S K G Q l rs n len k s) (hk : decide (k < len) = true) (hr : rowB T S K G Q l s' = rowB T S K G Q l (pokesM T S K k rs s)) (hw : mwords s') : Base T S K G Q l rs n len (k + 1) s' := by
  have hk := of_decide_eq_true hk
  have := h.k0
  exact ⟨by rw [hr, pokes_row]; exact h.row, hw, h.pokes, h.many, h.few, by omega, by omega, h.short⟩
end Go.Proofs.YtifojacfedjedaaGreat.Bound
