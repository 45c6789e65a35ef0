/- The steps of a sweep that goes on alone, by kinds. No condition. A sweep alone: its steps over words. No condition. -/
import Derived.Test.YtifojacfedjedaaGreatSwTQ
import Derived.Test.YtifojacfedjedaaGreatLatQ
section
namespace Go.Proofs.YtifojacfedjedaaGreat.Bound
open Go.Proofs.YtifojacfedjedaaGreat.Ev Go.Proofs.YtifojacfedjedaaGreat.ChartMath
set_option linter.unusedVariables false
set_option linter.unusedSimpArgs false
def soL : List (List Atom → Tree (Nat × List Atom)) := [so_enter, so_number, so_agedL, so_agedS, so_die, so_dead, so_tick, so_note, so_retired, so_grace, so_keys, so_unmark, so_past, so_others, so_part, so_close, so_closed, so_nought, so_free, so_later, so_done]
/-- A step of a sweep that has a kind, and what is open. -/
def stepK (st : Nat × List Atom) : Option (Nat × List Atom) := (nthD (fun _ => .bad) soL st.1 st.2).get
/-- So many steps at most, to its end: how many there were. -/
def runK : Nat → Nat × List Atom → Option (Nat × List Atom)
  | 0, _ => none
  | f + 1, st => cond (Nat.beq st.1 20) (some (0, st.2)) (match stepK st with
    | some r => match runK f r with
      | some (n, y) => some (n + 1, y)
      | none => none
    | none => none)
end Go.Proofs.YtifojacfedjedaaGreat.Bound
end

section
namespace Go.Proofs.YtifojacfedjedaaGreat.Bound
open Go.Proofs.YtifojacfedjedaaGreat.Ev Go.Proofs.YtifojacfedjedaaGreat.ChartMath
set_option linter.unusedVariables false
set_option linter.unusedSimpArgs false
/-- What does not change. -/
structure Pm where
  T : Int
  S : Int
  K : Int
  G : Int
  Q : Int
  th : Int
  sl : Int
  gn : Int
  l : Nat
  c : Nat
def hd (p : Pm) (j : Nat) (a : List Atom) (cl : Bool) (w u : List Atom) (s : MS) : Nat × List Atom := (j, [.i p.T, .i p.S, .i p.K, .i p.G, .i p.Q, .i p.th, .i p.sl, .i p.gn] ++ a ++ [.b cl] ++ w ++ [.i 0] ++ u ++ mA p.T p.S p.K p.G p.Q p.l p.c s)
def hdE (p : Pm) (e : Int) (s : MS) : Nat × List Atom := (20, .i e :: mA p.T p.S p.K p.G p.Q p.l p.c s)
theorem lf_hd (p : Pm) (j : Nat) (a : List Atom) (cl : Bool) (w u : List Atom) (s : MS) : den (lf j p.T p.S p.K p.G p.Q p.th p.sl p.gn a cl w p.l p.c s u) = .leaf (hd p j a cl w u s) := rfl
theorem brI {q : Prop} [Decidable q] {α : Type} {t : Tree α} {r : Option α} (h : q) (e : t.get = r) : (Tree.br (decide q) t .bad).get = r := by rw [Tree.get_br, if_pos (decide_eq_true h)]; exact e
abbrev Pm.good (p : Pm) (ws : List Int) : Prop := Good p.T p.S p.K p.G p.Q p.l ws
abbrev Pm.at (p : Pm) (ws : List Int) (k o : Int) : Int := lat p.T p.S p.K ws k o
abbrev Pm.set (p : Pm) (ws : List Int) (k o v : Int) : List Int := lset p.T p.S p.K ws k o v
abbrev Pm.ld (p : Pm) (s : MS) (k o : Int) : MS := mload p.T p.S p.K s k o
/-- It ends, within so many steps. -/
def Ends (p : Pm) (m : Nat) (st : Nat × List Atom) (e : Int) (ws : List Int) : Prop := ∃ n s', n ≤ m ∧ s'.ws = ws ∧ ∀ f, n < f → runK f st = some (n, (hdE p e s').2)
theorem Ends.done (p : Pm) (e : Int) (s : MS) : Ends p 0 (hdE p e s) e s.ws := ⟨0, s, Nat.le_refl _, rfl, fun f hf => by
  cases f with
  | zero => omega
  | succ f => rfl⟩
theorem Ends.mono {p : Pm} {m n : Nat} {st : Nat × List Atom} {e : Int} {ws : List Int} (h : Ends p m st e ws) (hn : m ≤ n) : Ends p n st e ws := by
  obtain ⟨k, s', h1, h2⟩ := h
  exact ⟨k, s', by omega, h2⟩
theorem Ends.step {p : Pm} {m : Nat} {st r : Nat × List Atom} {e : Int} {ws : List Int} (h : stepK st = some r) (hk : st.1 ≠ 20) (hr : Ends p m r e ws) : Ends p (m + 1) st e ws := by
  obtain ⟨n, s', h1, h2, h3⟩ := hr
  refine ⟨n + 1, s', by omega, h2, fun f hf => ?_⟩
  cases f with
  | zero => omega
  | succ f =>
    have hb : Nat.beq st.1 20 = false := by rw [← Bool.not_eq_true]; intro hh; exact hk (Nat.eq_of_beq_eq_true hh)
    unfold runK
    simp only [hb, cond_false, h, h3 f (by omega)]
def skip (a b : Int) : Int := if a = b then a + 1 else a
def enU (p : Pm) (es eh : Int) (ec : Nat) (tk : Bool) (ew : Int) : List Atom := [.i p.sl, .i es, .i eh, .n 4, .n ec, .b tk, .b false, .i 0, .i ew, .ws [4, 5, 6, 7]]
def keySt (p : Pm) (cl : Bool) (a : Int) (s : MS) : Nat × List Atom := if a < p.K then hd p 10 [.i a] cl [] [.i a, .i (-1), .i p.K] s else hd p 12 [] cl [] [] s
def goSt (p : Pm) (cl : Bool) (s : MS) : Nat × List Atom := if cl = true then hd p 17 [] cl [] [] s else keySt p cl 0 s
def waitSt (p : Pm) (cl : Bool) (a r : Int) (s : MS) : Nat × List Atom := if a ≥ p.T then goSt p cl s else hd p 9 [] cl [] [.i p.th, .i a, .i r, .b false] s
def laterSt (p : Pm) (cl : Bool) (s : MS) : Nat × List Atom := hd p 19 [] cl [] [.i p.sl, .i 0, .i (-1), .b false, .b false] s
def agedSt (p : Pm) (cl : Bool) (a num : Int) (s : MS) : Nat × List Atom := if a < p.S then hd p 2 [] cl [] [.i a, .i num, .b false, .i a, .i p.sl, .i p.S] s else hd p 4 [] cl [] [] s
def otherSt (p : Pm) (cl : Bool) (a n : Int) (s : MS) : Nat × List Atom := if a < p.S then hd p 13 [.i a] cl [.i n] [.i a, .i p.sl, .i p.S] s else hd p 15 [] cl [] [] s
theorem wr_0 : IntKind.i64.wrap (-1 + 1) = 0 := rfl
theorem wr_1 : IntKind.i64.wrap (0 + 1) = 1 := rfl
theorem wr_s {a : Int} (h0 : -1 ≤ a) (h1 : a < 1000) : IntKind.i64.wrap (a + 1) = a + 1 := by rw [IntKind.wrap_i64]; omega
section
variable {p : Pm} {s : MS} {cl : Bool}
theorem aged_is {a n : Int} {s' : MS} : (if a = p.sl then if (!decide (a + 1 < p.S)) = true then some (hd p 4 [] cl [] [] s') else some (hd p 2 [] cl [] [.i (a + 1), .i n, .b false, .i (a + 1), .i p.sl, .i p.S] s') else if (!decide (a < p.S)) = true then some (hd p 4 [] cl [] [] s') else some (hd p 2 [] cl [] [.i a, .i n, .b false, .i a, .i p.sl, .i p.S] s')) = some (agedSt p cl (skip a p.sl) n s') := by
  unfold agedSt skip
  by_cases h1 : a = p.sl
  · rw [if_pos h1, if_pos h1]; by_cases h2 : a + 1 < p.S <;> simp [h2]
  · rw [if_neg h1, if_neg h1]; by_cases h2 : a < p.S <;> simp [h2]
theorem s_number (h : p.good s.ws) : stepK (hd p 1 [] cl [] [] s) = some (agedSt p cl (skip 0 p.sl) (p.at s.ws 6 p.sl) (p.ld s 6 p.sl)) := by
  refine brI ⟨rfl, rfl, rfl, rfl, rfl, rfl⟩ ?_
  simp only [pt_number, den, lf_hd, Tree.get_br, Tree.get_leaf, h.rowB, if_true, mat_lat, wr_0, wr_1, beq_iff_eq]
  exact aged_is (a := 0)
theorem s_agedL {a num : Int} (h : p.good s.ws) (h0 : 0 ≤ a) (h1 : a < p.S) : stepK (hd p 2 [] cl [] [.i a, .i num, .b false, .i a, .i p.sl, .i p.S] s) =
    some (if stI (p.at s.ws 4 a) = 1 then laterSt p cl (p.ld s 4 a) else if stI (p.at s.ws 4 a) = 2 ∨ stI (p.at s.ws 4 a) = 3 then hd p 3 [] cl [] [.i a, .i num, .b false, .i a, .i p.sl, .i p.S] (p.ld s 4 a) else agedSt p cl (skip (a + 1) p.sl) num (p.ld s 4 a)) := by
  obtain ⟨_, _, _, _, _, _⟩ := h.cfg
  refine brI ⟨rfl, rfl, rfl, rfl, rfl, rfl, rfl, rfl, rfl, rfl⟩ ?_
  simp only [pt_agedL, den, lf_hd, Tree.get_br, Tree.get_leaf, h.rowB, if_true, mat_lat, h.isW, wr_s (a := a) (by omega) (by omega), wr_s (a := a + 1) (by omega) (by omega), beq_iff_eq, laterSt]
  by_cases e1 : stI (lat p.T p.S p.K s.ws 4 a) = 1
  · rw [if_pos e1, if_pos e1]
  rw [if_neg e1, if_neg e1]
  by_cases e2 : stI (lat p.T p.S p.K s.ws 4 a) = 2
  · rw [if_pos e2, if_pos (.inl e2)]
  rw [if_neg e2]
  by_cases e3 : stI (lat p.T p.S p.K s.ws 4 a) = 3
  · rw [if_pos e3, if_pos (.inr e3)]
  rw [if_neg e3, if_neg (show ¬ (stI (p.at s.ws 4 a) = 2 ∨ stI (p.at s.ws 4 a) = 3) from fun h => h.elim e2 e3)]
  exact aged_is
theorem s_agedS {a num : Int} (h : p.good s.ws) (h0 : 0 ≤ a) (h1 : a < p.S) : stepK (hd p 3 [] cl [] [.i a, .i num, .b false, .i a, .i p.sl, .i p.S] s) =
    some (if p.at s.ws 5 a < num then laterSt p cl (p.ld s 5 a) else agedSt p cl (skip (a + 1) p.sl) num (p.ld s 5 a)) := by
  obtain ⟨_, _, _, _, _, _⟩ := h.cfg
  refine brI ⟨rfl, rfl, rfl, rfl, rfl, rfl, rfl, rfl, rfl, rfl⟩ ?_
  simp only [pt_agedS, den, lf_hd, Tree.get_br, Tree.get_leaf, h.rowB, if_true, mat_lat, h.isW, wr_s (a := a) (by omega) (by omega), wr_s (a := a + 1) (by omega) (by omega), decide_eq_true_eq, beq_iff_eq, laterSt]
  split
  · rename_i e1
    have e1 : p.at s.ws 5 a < num := of_decide_eq_true e1
    rw [if_pos e1]
  · rename_i e1
    have e1 : ¬ p.at s.ws 5 a < num := fun h => e1 (decide_eq_true h)
    rw [if_neg e1]
    exact aged_is
theorem s_die (h : p.good s.ws) : stepK (hd p 4 [] cl [] [] s) = some (hd p 5 [] cl [.i (p.at s.ws 4 p.sl)] [] (p.ld s 4 p.sl)) := by
  refine brI ⟨rfl, rfl, rfl, rfl, rfl, rfl⟩ ?_
  simp only [pt_die, den, lf_hd, Tree.get_br, Tree.get_leaf, h.rowB, if_true, mat_lat]
theorem s_dead {w : Int} (h : p.good s.ws) (hw : isW w = true) (ho : mok p.T p.S p.K s 4 p.sl w = true) : stepK (hd p 5 [] cl [.i w] [] s) = some (hd p 6 [] cl [] [] (mswap p.T p.S p.K s 4 p.sl w (moveI w 6 true))) := by
  refine brI ⟨rfl, rfl, rfl, rfl, rfl, rfl⟩ ?_
  simp only [pt_dead, den, lf_hd, Tree.get_br, Tree.get_leaf, h.rowB, if_true, mat_lat, hw, ho]
theorem s_tick (h : p.good s.ws) : stepK (hd p 6 [] cl [] [] s) = some (hd p 7 [] cl [.i (p.at s.ws 2 0)] [] (madd p.T p.S p.K s 2 0 1)) := by
  refine brI ⟨rfl, rfl, rfl, rfl, rfl, rfl⟩ ?_
  simp only [pt_tick, den, lf_hd, Tree.get_br, Tree.get_leaf, h.rowB, if_true, mat_lat]
theorem wait_is {q : Bool} {a r : Int} {s' : MS} (hw : q = decide (a ≥ p.T)) : (if q = true then if cl = true then some (hd p 17 [] cl [] [] s') else if (!decide ((0 : Int) < p.K)) = true then some (hd p 12 [] cl [] [] s') else some (hd p 10 [.i 0] cl [] [.i 0, .i (-1), .i p.K] s') else some (hd p 9 [] cl [] [.i p.th, .i a, .i r, .b false] s')) = some (waitSt p cl a r s') := by
  subst hw
  unfold waitSt goSt keySt
  by_cases h1 : a ≥ p.T
  · cases cl
    · by_cases h2 : 0 < p.K <;> simp [h1, h2]
    · simp [h1]
  · simp [h1]
theorem s_note {r : Int} (h : p.good s.ws) (hr : 0 ≤ r ∧ r < 18446744073709551616) : stepK (hd p 7 [] cl [.i r] [] s) = some (waitSt p cl (skip 0 p.th) r (mstore p.T p.S p.K s 7 p.sl r)) := by
  refine brI ⟨rfl, rfl, rfl, rfl, rfl, rfl⟩ ?_
  simp only [pt_note, den, lf_hd, Tree.get_br, Tree.get_leaf, h.rowB, if_true, mat_lat, wr_0, wr_1, beq_iff_eq]
  unfold skip
  by_cases h1 : 0 = p.th
  · rw [if_pos h1, if_pos h1]; exact wait_is (a := 1) rfl
  · rw [if_neg h1, if_neg h1]; exact wait_is (a := 0) rfl
theorem s_retired (h : p.good s.ws) : stepK (hd p 8 [] cl [] [] s) = some (waitSt p cl (skip 0 p.th) (p.at s.ws 7 p.sl) (p.ld s 7 p.sl)) := by
  refine brI ⟨rfl, rfl, rfl, rfl, rfl, rfl⟩ ?_
  simp only [pt_retired, den, lf_hd, Tree.get_br, Tree.get_leaf, h.rowB, if_true, mat_lat, wr_0, wr_1, beq_iff_eq]
  unfold skip
  by_cases h1 : 0 = p.th
  · rw [if_pos h1, if_pos h1]; exact wait_is (a := 1) rfl
  · rw [if_neg h1, if_neg h1]; exact wait_is (a := 0) rfl
theorem s_nought (h : p.good s.ws) : stepK (hd p 17 [] cl [] [] s) = some (hd p 18 [] cl [] [] (mstore p.T p.S p.K s 6 p.sl 0)) := by
  refine brI ⟨rfl, rfl, rfl, rfl, rfl, rfl⟩ ?_
  simp only [pt_nought, den, lf_hd, Tree.get_br, Tree.get_leaf, h.rowB, if_true, mat_lat]
theorem s_free (h : p.good s.ws) (h0 : 0 ≤ p.gn) (h1 : p.gn ≤ 1073741823) : stepK (hd p 18 [] cl [] [] s) = some (hdE p 0 (mstore p.T p.S p.K s 4 p.sl (newI 0 (p.gn + 1)))) := by
  refine brI ⟨rfl, rfl, rfl, rfl, rfl, rfl⟩ ?_
  have hw : IntKind.i64.wrap (p.gn + 1) = p.gn + 1 := by rw [IntKind.wrap_i64]; omega
  have hr : (0 : Int) ≤ 0 ∧ (0 : Int) ≤ 7 ∧ 0 ≤ p.gn + 1 ∧ p.gn + 1 ≤ 1073741824 := by omega
  simp only [pt_free, den, lf_hd, Tree.get_br, Tree.get_leaf, h.rowB, if_true, mat_lat, hw, decide_eq_true hr]
  rfl
theorem s_laterA (h : p.good s.ws) : stepK (laterSt p cl s) = some (hd p 19 [] cl [] [.i p.sl, .i (p.at s.ws 4 p.sl), .i (-1), .b true, .b false] (p.ld s 4 p.sl)) := by
  refine brI ⟨rfl, rfl, rfl, rfl, rfl, rfl, rfl, rfl, rfl⟩ ?_
  simp only [pt_later, den, lf_hd, Tree.get_br, Tree.get_leaf, h.rowB, if_true, mat_lat, Bool.not_false]
theorem s_laterB {w : Int} (h : p.good s.ws) (hw : isW w = true) (ho : mok p.T p.S p.K s 4 p.sl w = true) : stepK (hd p 19 [] cl [] [.i p.sl, .i w, .i (-1), .b true, .b false] s) = some (hdE p 9 (mswap p.T p.S p.K s 4 p.sl w (moveI w (stI w) false))) := by
  refine brI ⟨rfl, rfl, rfl, rfl, rfl, rfl, rfl, rfl, rfl⟩ ?_
  simp only [pt_later, den, lf_hd, Tree.get_br, Tree.get_leaf, h.rowB, if_true, mat_lat, Bool.not_true, Bool.false_eq_true, if_false, hw, ho]
  rfl
theorem s_close (h : p.good s.ws) : stepK (hd p 15 [] cl [] [] s) = some (hd p 16 [] cl [.i (p.at s.ws 4 p.sl)] [] (p.ld s 4 p.sl)) := by
  refine brI ⟨rfl, rfl, rfl, rfl, rfl, rfl⟩ ?_
  simp only [pt_close, den, lf_hd, Tree.get_br, Tree.get_leaf, h.rowB, if_true, mat_lat]
theorem s_closed {w : Int} (h : p.good s.ws) (hw : isW w = true) (ho : mok p.T p.S p.K s 4 p.sl w = true) : stepK (hd p 16 [] cl [.i w] [] s) = some (hd p 6 [] true [] [] (mswap p.T p.S p.K s 4 p.sl w (moveI w 7 true))) := by
  refine brI ⟨rfl, rfl, rfl, rfl, rfl, rfl⟩ ?_
  simp only [pt_closed, den, lf_hd, Tree.get_br, Tree.get_leaf, h.rowB, if_true, mat_lat, hw, ho]
theorem key_is {a : Int} {s' : MS} (h0 : 0 ≤ a) : (if a = (-1 : Int) then if (!decide (a + 1 < p.K)) = true then some (hd p 12 [] cl [] [] s') else some (hd p 10 [.i (a + 1)] cl [] [.i (a + 1), .i (-1), .i p.K] s') else if (!decide (a < p.K)) = true then some (hd p 12 [] cl [] [] s') else some (hd p 10 [.i a] cl [] [.i a, .i (-1), .i p.K] s')) = some (keySt p cl a s') := by
  rw [if_neg (by omega)]
  unfold keySt
  by_cases h2 : a < p.K <;> simp [h2]
theorem other_is {a n : Int} {s' : MS} : (if a = p.sl then if (!decide (a + 1 < p.S)) = true then some (hd p 15 [] cl [] [] s') else some (hd p 13 [.i (a + 1)] cl [.i n] [.i (a + 1), .i p.sl, .i p.S] s') else if (!decide (a < p.S)) = true then some (hd p 15 [] cl [] [] s') else some (hd p 13 [.i a] cl [.i n] [.i a, .i p.sl, .i p.S] s')) = some (otherSt p cl (skip a p.sl) n s') := by
  unfold otherSt skip
  by_cases h1 : a = p.sl
  · rw [if_pos h1, if_pos h1]; by_cases h2 : a + 1 < p.S <;> simp [h2]
  · rw [if_neg h1, if_neg h1]; by_cases h2 : a < p.S <;> simp [h2]
theorem s_keys {a : Int} (h : p.good s.ws) (h0 : 0 ≤ a) (h1 : a < p.K) (hs : 0 ≤ p.sl ∧ p.sl ≤ 11) : stepK (hd p 10 [.i a] cl [] [.i a, .i (-1), .i p.K] s) =
    some (if dropM (p.at s.ws 8 a) p.sl = p.at s.ws 8 a then keySt p cl (a + 1) (p.ld s 8 a) else hd p 11 [.i a] cl [.i (p.at s.ws 8 a)] [.i a, .i (-1), .i p.K] (p.ld s 8 a)) := by
  obtain ⟨_, _, _, _, _, _⟩ := h.cfg
  refine brI ⟨rfl, rfl, rfl, rfl, rfl, rfl, rfl, rfl, rfl⟩ ?_
  simp only [pt_keys, den, lf_hd, Tree.get_br, Tree.get_leaf, h.rowB, if_true, mat_lat, h.isW, Bool.true_and, decide_eq_true hs, wr_s (a := a) (by omega) (by omega), wr_s (a := a + 1) (by omega) (by omega), beq_iff_eq]
  by_cases e1 : dropM (lat p.T p.S p.K s.ws 8 a) p.sl = lat p.T p.S p.K s.ws 8 a
  · rw [if_pos e1, if_pos e1]; exact key_is (by omega)
  · rw [if_neg e1, if_neg e1]
theorem s_unmark {a w : Int} (h : p.good s.ws) (h0 : 0 ≤ a) (h1 : a < p.K) (hs : 0 ≤ p.sl ∧ p.sl ≤ 11) (hw : isW w = true) (ho : mok p.T p.S p.K s 8 a w = true) : stepK (hd p 11 [.i a] cl [.i w] [.i a, .i (-1), .i p.K] s) =
    some (keySt p cl (a + 1) (mswap p.T p.S p.K s 8 a w (dropM w p.sl))) := by
  obtain ⟨_, _, _, _, _, _⟩ := h.cfg
  refine brI ⟨rfl, rfl, rfl, rfl, rfl, rfl, rfl, rfl, rfl⟩ ?_
  simp only [pt_unmark, den, lf_hd, Tree.get_br, Tree.get_leaf, h.rowB, if_true, mat_lat, hw, ho, Bool.true_and, decide_eq_true hs, wr_s (a := a) (by omega) (by omega), wr_s (a := a + 1) (by omega) (by omega), beq_iff_eq]
  exact key_is (by omega)
theorem s_past (h : p.good s.ws) : stepK (hd p 12 [] cl [] [] s) = some (otherSt p cl (skip 0 p.sl) (p.at s.ws 6 p.sl) (p.ld s 6 p.sl)) := by
  refine brI ⟨rfl, rfl, rfl, rfl, rfl, rfl⟩ ?_
  simp only [pt_past, den, lf_hd, Tree.get_br, Tree.get_leaf, h.rowB, if_true, mat_lat, wr_0, wr_1, beq_iff_eq]
  exact other_is (a := 0)
theorem s_others {a n : Int} (h : p.good s.ws) (h0 : 0 ≤ a) (h1 : a < p.S) (hs : 0 ≤ p.sl ∧ p.sl ≤ 11) : stepK (hd p 13 [.i a] cl [.i n] [.i a, .i p.sl, .i p.S] s) =
    some (if dropW (p.at s.ws 4 a) p.sl (n != 0) = p.at s.ws 4 a then otherSt p cl (skip (a + 1) p.sl) n (p.ld s 4 a) else hd p 14 [.i a] cl [.i (p.at s.ws 4 a), .i n] [.i a, .i p.sl, .i p.S] (p.ld s 4 a)) := by
  obtain ⟨_, _, _, _, _, _⟩ := h.cfg
  refine brI ⟨rfl, rfl, rfl, rfl, rfl, rfl, rfl, rfl, rfl⟩ ?_
  simp only [pt_others, den, lf_hd, Tree.get_br, Tree.get_leaf, h.rowB, if_true, mat_lat, h.isW, Bool.true_and, decide_eq_true hs, wr_s (a := a) (by omega) (by omega), wr_s (a := a + 1) (by omega) (by omega), beq_iff_eq]
  by_cases e1 : dropW (lat p.T p.S p.K s.ws 4 a) p.sl (n != 0) = lat p.T p.S p.K s.ws 4 a
  · rw [if_pos e1, if_pos e1]; exact other_is
  · rw [if_neg e1, if_neg e1]
theorem s_part {a w n : Int} (h : p.good s.ws) (h0 : 0 ≤ a) (h1 : a < p.S) (hs : 0 ≤ p.sl ∧ p.sl ≤ 11) (hw : isW w = true) (ho : mok p.T p.S p.K s 4 a w = true) : stepK (hd p 14 [.i a] cl [.i w, .i n] [.i a, .i p.sl, .i p.S] s) =
    some (otherSt p cl (skip (a + 1) p.sl) n (mswap p.T p.S p.K s 4 a w (dropW w p.sl (n != 0)))) := by
  obtain ⟨_, _, _, _, _, _⟩ := h.cfg
  refine brI ⟨rfl, rfl, rfl, rfl, rfl, rfl, rfl, rfl, rfl⟩ ?_
  simp only [pt_part, den, lf_hd, Tree.get_br, Tree.get_leaf, h.rowB, if_true, mat_lat, hw, ho, Bool.true_and, decide_eq_true hs, wr_s (a := a) (by omega) (by omega), wr_s (a := a + 1) (by omega) (by omega), beq_iff_eq]
  exact other_is
theorem g_0 : [(4 : Int), 5, 6, 7].getD (0 + Int.toNat 0 * 1) 0 = 4 := rfl
theorem g_1 : [(4 : Int), 5, 6, 7].getD (0 + (IntKind.i64.wrap (0 + 1)).toNat * 1) 0 = 5 := rfl
theorem g_2 : [(4 : Int), 5, 6, 7].getD (0 + (IntKind.i64.wrap (IntKind.i64.wrap (0 + 1) + 1)).toNat * 1) 0 = 6 := rfl
theorem g_3 : [(4 : Int), 5, 6, 7].getD (0 + (IntKind.i64.wrap (IntKind.i64.wrap (IntKind.i64.wrap (0 + 1) + 1) + 1)).toNat * 1) 0 = 7 := rfl
theorem s_grace {a r : Int} (h : p.good s.ws) (h0 : 0 ≤ a) (h1 : a < p.T) : stepK (hd p 9 [] cl [] [.i p.th, .i a, .i r, .b false] s) =
    some (if p.at s.ws 3 a ≠ 0 ∧ p.at s.ws 3 a - 1 ≤ r then laterSt p cl (p.ld s 3 a) else waitSt p cl (skip (a + 1) p.th) r (p.ld s 3 a)) := by
  obtain ⟨_, _, _, _, _, _⟩ := h.cfg
  have hw : 0 ≤ p.at s.ws 3 a ∧ p.at s.ws 3 a < 18446744073709551616 := h.lat 3 a
  have hn : ¬ a ≥ p.T := by omega
  refine brI ⟨rfl, rfl, rfl, rfl, rfl, rfl, rfl, rfl⟩ ?_
  simp only [pt_grace, den, lf_hd, Tree.get_br, Tree.get_leaf, h.rowB, if_true, mat_lat, wr_0, wr_1, wr_s (a := a) (by omega) (by omega), wr_s (a := a + 1) (by omega) (by omega), beq_iff_eq, bne_iff_ne, decide_eq_false hn, Bool.false_eq_true, if_false, cond_true]
  by_cases e0 : p.at s.ws 3 a = 0
  · rw [if_neg (fun h => h e0), if_neg (show ¬ (p.at s.ws 3 a ≠ 0 ∧ p.at s.ws 3 a - 1 ≤ r) from fun h => h.1 e0)]
    unfold skip
    by_cases h1 : a + 1 = p.th
    · rw [if_pos h1, if_pos h1]; exact wait_is rfl
    · rw [if_neg h1, if_neg h1]; exact wait_is rfl
  · have eu : IntKind.u64.wrap (p.at s.ws 3 a - 1) = p.at s.ws 3 a - 1 := wrap_id (by omega) (by omega)
    rw [if_pos e0]
    simp only [eu]
    by_cases e1 : p.at s.ws 3 a - 1 ≤ r
    · rw [if_pos (show p.at s.ws 3 a ≠ 0 ∧ p.at s.ws 3 a - 1 ≤ r from ⟨e0, e1⟩)]
      simp only [decide_eq_true e1, if_true, ite_self]
      rfl
    · rw [if_neg (show ¬ (p.at s.ws 3 a ≠ 0 ∧ p.at s.ws 3 a - 1 ≤ r) from fun h => e1 h.2)]
      simp only [decide_eq_false e1, Bool.false_eq_true, if_false]
      unfold skip
      by_cases h1 : a + 1 = p.th
      · rw [if_pos h1, if_pos h1]; exact wait_is rfl
      · rw [if_neg h1, if_neg h1]; exact wait_is rfl
section
variable {es eh ew : Int} {ec : Nat} (h : p.good s.ws) (he : isW eh = true) (hk : okT eh p.S = true)
include h he hk
theorem s_en_stale (hx : gnI (p.at s.ws 4 p.sl) ≠ genI eh ∨ stI (p.at s.ws 4 p.sl) = 0 ∨ stI (p.at s.ws 4 p.sl) = 1) : stepK (hd p 0 [] cl [] (enU p es eh ec false ew) s) = some (hdE p 2 (p.ld s 4 p.sl)) := by
  refine brI ⟨rfl, rfl, rfl, rfl, rfl, rfl, rfl, rfl, rfl, rfl, rfl⟩ ?_
  simp only [pt_enter, den, lf_hd, Tree.get_br, Tree.get_leaf, h.rowB, if_true, mat_lat, he, hk, h.isW, Bool.not_true, Bool.not_false, Bool.false_eq_true, if_false, beq_iff_eq, bne_iff_ne]
  by_cases e1 : gnI (p.at s.ws 4 p.sl) = genI eh
  · rw [if_neg (fun h => h e1)]
    by_cases e2 : stI (p.at s.ws 4 p.sl) = 0
    · rw [if_pos e2]; rfl
    · rw [if_neg e2]
      by_cases e3 : stI (p.at s.ws 4 p.sl) = 1
      · rw [if_pos e3]; rfl
      · exact absurd hx (by simp [e1, e2, e3])
  · rw [if_pos e1]; rfl
theorem s_en_busy (hg : gnI (p.at s.ws 4 p.sl) = genI eh) (hx : 2 ≤ stI (p.at s.ws 4 p.sl)) (hb : bitI (p.at s.ws 4 p.sl) 26 = true) : stepK (hd p 0 [] cl [] (enU p es eh ec false ew) s) = some (hdE p 3 (p.ld s 4 p.sl)) := by
  refine brI ⟨rfl, rfl, rfl, rfl, rfl, rfl, rfl, rfl, rfl, rfl, rfl⟩ ?_
  have e2 : ¬ stI (p.at s.ws 4 p.sl) = 0 := by omega
  have e3 : ¬ stI (p.at s.ws 4 p.sl) = 1 := by omega
  simp only [pt_enter, den, lf_hd, Tree.get_br, Tree.get_leaf, h.rowB, if_true, mat_lat, he, hk, h.isW, Bool.not_true, Bool.not_false, Bool.false_eq_true, if_false, beq_iff_eq, bne_iff_ne, hg, ne_eq, not_true_eq_false, e2, e3, hb, g_0, g_1, g_2, g_3]
  rfl
theorem s_en_state (hg : gnI (p.at s.ws 4 p.sl) = genI eh) (hx : stI (p.at s.ws 4 p.sl) = 2 ∨ stI (p.at s.ws 4 p.sl) = 3) (hb : bitI (p.at s.ws 4 p.sl) 26 = false) : stepK (hd p 0 [] cl [] (enU p es eh ec false ew) s) = some (hdE p 4 (p.ld s 4 p.sl)) := by
  refine brI ⟨rfl, rfl, rfl, rfl, rfl, rfl, rfl, rfl, rfl, rfl, rfl⟩ ?_
  have e2 : ¬ stI (p.at s.ws 4 p.sl) = 0 := by omega
  have e3 : ¬ stI (p.at s.ws 4 p.sl) = 1 := by omega
  have e4 : ¬ stI (p.at s.ws 4 p.sl) = 4 := by omega
  have e5 : ¬ stI (p.at s.ws 4 p.sl) = 5 := by omega
  have e6 : ¬ stI (p.at s.ws 4 p.sl) = 6 := by omega
  have e7 : ¬ stI (p.at s.ws 4 p.sl) = 7 := by omega
  simp only [pt_enter, den, lf_hd, Tree.get_br, Tree.get_leaf, h.rowB, if_true, mat_lat, he, hk, h.isW, Bool.not_true, Bool.not_false, Bool.false_eq_true, if_false, beq_iff_eq, bne_iff_ne, hg, ne_eq, not_true_eq_false, e2, e3, hb, g_0, g_1, g_2, g_3]
  rw [if_neg e4, if_neg e5, if_neg e6, if_neg e7]
  rfl
theorem s_en_take (hg : gnI (p.at s.ws 4 p.sl) = genI eh) (hx : 4 ≤ stI (p.at s.ws 4 p.sl)) (hb : bitI (p.at s.ws 4 p.sl) 26 = false) : stepK (hd p 0 [] cl [] (enU p es eh ec false ew) s) = some (hd p 0 [] cl [] (enU p (p.at s.ws 4 p.sl) eh ec true ew) (p.ld s 4 p.sl)) := by
  refine brI ⟨rfl, rfl, rfl, rfl, rfl, rfl, rfl, rfl, rfl, rfl, rfl⟩ ?_
  have e2 : ¬ stI (p.at s.ws 4 p.sl) = 0 := by omega
  have e3 : ¬ stI (p.at s.ws 4 p.sl) = 1 := by omega
  have hs := st_range (p.at s.ws 4 p.sl)
  simp only [pt_enter, den, lf_hd, Tree.get_br, Tree.get_leaf, h.rowB, if_true, mat_lat, he, hk, h.isW, Bool.not_true, Bool.not_false, Bool.false_eq_true, if_false, beq_iff_eq, bne_iff_ne, hg, ne_eq, not_true_eq_false, e2, e3, hb, g_0, g_1, g_2, g_3]
  by_cases e4 : stI (p.at s.ws 4 p.sl) = 4
  · rw [if_pos e4]; rfl
  rw [if_neg e4]
  by_cases e5 : stI (p.at s.ws 4 p.sl) = 5
  · rw [if_pos e5]; rfl
  rw [if_neg e5]
  by_cases e6 : stI (p.at s.ws 4 p.sl) = 6
  · rw [if_pos e6]; rfl
  rw [if_neg e6, if_pos (show stI (p.at s.ws 4 p.sl) = 7 by omega)]
  rfl
/-- Behind a sweep's entering. -/
def inSt (p : Pm) (st : Int) (s : MS) : Nat × List Atom := if st = 4 then hd p 1 [] false [] [] s else if st = 5 then hd p 4 [] false [] [] s else if st = 6 then hd p 8 [] false [] [] s else hd p 8 [] true [] [] s
theorem s_en_swap {w : Int} (hw : 0 ≤ w ∧ w < 18446744073709551616) (ho : mok p.T p.S p.K s 4 p.sl w = true) : stepK (hd p 0 [] false [] (enU p w eh ec true ew) s) = some (inSt p (stI w) (mswap p.T p.S p.K s 4 p.sl w (moveI w (stI w) true))) := by
  refine brI ⟨rfl, rfl, rfl, rfl, rfl, rfl, rfl, rfl, rfl, rfl, rfl⟩ ?_
  have hi : isW w = true := by simp only [isW, decide_eq_true_eq]; exact hw
  have hm : isW (moveI w (stI w) true) = true := by simp only [isW, decide_eq_true_eq]; exact mv_word _ _ _ hw
  have hs := mv_st w (stI w) true (st_range w)
  simp only [pt_enter, den, lf_hd, Tree.get_br, Tree.get_leaf, h.rowB, if_true, mat_lat, he, hk, h.isW, Bool.not_true, Bool.not_false, Bool.false_eq_true, if_false, beq_iff_eq, bne_iff_ne, hi, hm, ho, hs]
  unfold inSt
  by_cases e4 : stI w = 4
  · rw [if_pos e4, if_pos e4]
  rw [if_neg e4, if_neg e4]
  by_cases e5 : stI w = 5
  · rw [if_pos e5, if_pos e5]
  rw [if_neg e5, if_neg e5]
  by_cases e6 : stI w = 6
  · rw [if_pos e6, if_pos e6]
  rw [if_neg e6, if_neg e6]
end
end
end Go.Proofs.YtifojacfedjedaaGreat.Bound
end
