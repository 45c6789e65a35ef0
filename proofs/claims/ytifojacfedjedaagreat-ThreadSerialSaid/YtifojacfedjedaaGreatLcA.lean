/- What the machines of operations do, as functions on words. Conditions stand in the statements. A Read's steps are those functions. Conditions stand in the statements. A Commit's and an Abort's steps are those functions. Conditions stand in the statements. An Open's steps are those functions. Conditions stand in the statements. -/
import Derived.Test.YtifojacfedjedaaGreatSxB
import Derived.Test.YtifojacfedjedaaGreatMkA
import Derived.Test.YtifojacfedjedaaGreatMcRQ
import Derived.Test.YtifojacfedjedaaGreatMcCQ
import Derived.Test.YtifojacfedjedaaGreatOpTQ
section
namespace Go.Proofs.YtifojacfedjedaaGreat.Bound
open Go.Proofs.YtifojacfedjedaaGreat.Ev Go.Proofs.YtifojacfedjedaaGreat.ChartMath
set_option linter.unusedVariables false
set_option linter.unusedSimpArgs false
/-- What an operation was started with; what it marks. -/
structure Ar where
  M : Nat
  ky : Int
  sl : Int
  eh : Int
  kd : Int
inductive Loc where
  | en (tk : Bool) (es : Int)
  | snap
  | look (n : Int)
  | mark (n w : Int)
  | rival (n w : Int) (l : List Int)
  | num (n w : Int) (l : List Int)
  | join (j : Nat) (n js : Int) (l : List Int)
  | own (lk : Bool) (n os : Int) (l : List Int)
  | judge
  | doom (s : Int)
  | promise (s : Int)
  | count
  | help (j : Nat) (hw hs : Int)
  | number (w : Int)
  | note (j : Nat) (w hw hs : Int)
  | abt
  | olook (sl : Int)
  | otake (sl w : Int)
  | otally (sl w : Int)
  | ohelp (j : Nat) (sl w hw hs : Int)
  | onote (sl w q : Int)
  | ostart (sl w q : Int)
  | lv (lk : Bool) (ls st e h n : Int)
  | done (e h n : Int)
def lvOk : Loc := .lv false 0 (-1) 0 0 0
def lvNo (e : Int) : Loc := .lv false 0 5 e 0 0
/-- The next other one. -/
def nextO (n : Int) : List Int → Loc
  | [] => lvOk
  | x :: r => .join 0 n 0 (x :: r)
def foundL (a : Ar) (n w : Int) : Loc := nextO n (othL w (1 - a.kd) a.sl)
def goesL (a : Ar) (n w : Int) : List Int → Loc
  | [] => bif bitI w (12 * a.kd + a.sl) then foundL a n w else .mark n w
  | x :: r => .rival n w (x :: r)
def judgeJ (a : Ar) (n s : Int) (l : List Int) : Loc := bif bitI s (12 * (1 - a.kd) + a.sl) then .own false n 0 l else bif stI s != 2 && anyB s a.kd then lvNo 7 else .join 2 n s l
def fstL (a : Ar) : Loc := if a.M = 3 then .judge else if a.M = 4 then .abt else .snap
def Pm.cas (p : Pm) (ws : List Int) (k o old : Int) : Bool := decide (0 ≤ cellOf p.T p.S p.K k o) && (p.at ws k o == old)
/-- A swap, and what comes behind it, done or not. -/
def Pm.swap (p : Pm) (ws : List Int) (k o old v : Int) (x y : Loc) : Loc × List Int := bif p.cas ws k o old then (x, p.set ws k o v) else (y, ws)
def ogoes (p : Pm) (sl : Int) : Loc := if sl + 1 ≥ p.S then .done 6 0 0 else .olook (sl + 1)
/-- A help's number, look, lay and settle; b: which step comes next; z: what comes behind it. -/
def helpL (p : Pm) (ws : List Int) (hw hs : Int) (b : Nat → Int → Loc) (z : Loc) : Nat → Loc × List Int
  | 0 => (p.swap ws 6 (hw % 16 - 1) 0 (hw / 16) (b 1 hs) (b 1 hs))
  | 1 => (bif stI (p.at ws 4 (hw % 16 - 1)) == 3 then b 2 (p.at ws 4 (hw % 16 - 1)) else b 3 (p.at ws 4 (hw % 16 - 1)), ws)
  | 2 => p.swap ws 4 (hw % 16 - 1) hs (moveI hs 4 (bitI hs 26)) (b 3 hs) (b 1 hs)
  | _ => p.swap ws 1 0 hw (setI hw) z z
/-- A step. -/
def locS (p : Pm) (a : Ar) (ws : List Int) : Loc → Loc × List Int
  | .en false es =>
    let w := p.at ws 4 a.sl
    (bif gnI w != genI a.eh then .done 2 0 0 else bif stI w == 0 then .done 2 0 0 else bif stI w == 1 then .done 2 0 0 else bif bitI w 26 then .done 3 0 0 else bif stI w == 2 then .en true w else .done 4 0 0, ws)
  | .en true es => p.swap ws 4 a.sl es (moveI es (stI es) true) (fstL a) (.en false es)
  | .snap => (.look (p.at ws 5 a.sl), ws)
  | .look n => (goesL a n (p.at ws 8 a.ky) (if a.kd = 0 then [] else othL (p.at ws 8 a.ky) 1 a.sl), ws)
  | .mark n w => p.swap ws 8 a.ky w (putI w (12 * a.kd + a.sl) true) (foundL a n w) (.look n)
  | .rival n w l =>
    let s := stI (p.at ws 4 (l.headD 0))
    (bif s == 2 then lvNo 8 else bif s == 3 then lvNo 8 else bif s == 4 then .num n w l else goesL a n w l.tail, ws)
  | .num n w l => (bif p.at ws 6 (l.headD 0) != 0 && decide (p.at ws 6 (l.headD 0) ≤ n) then goesL a n w l.tail else lvNo 8, ws)
  | .join 0 n js l =>
    let s := p.at ws 4 (l.headD 0)
    (bif stI s == 4 then .join 1 n s l else bif stI s == 2 then judgeJ a n s l else bif stI s == 3 then judgeJ a n s l else nextO n l.tail, ws)
  | .join 1 n js l => (bif p.at ws 6 (l.headD 0) != 0 && decide (p.at ws 6 (l.headD 0) ≤ n) then nextO n l.tail else judgeJ a n js l, ws)
  | .join _ n js l => p.swap ws 4 (l.headD 0) js (putI js (12 * (1 - a.kd) + a.sl) true) (.own false n 0 l) (.join 0 n js l)
  | .own false n os l =>
    let s := p.at ws 4 a.sl
    (bif putI s (12 * a.kd + l.headD 0) true == s then nextO n l.tail else .own true n s l, ws)
  | .own true n os l => p.swap ws 4 a.sl os (putI os (12 * a.kd + l.headD 0) true) (nextO n l.tail) (.own false n os l)
  | .judge =>
    let s := p.at ws 4 a.sl
    (bif anyB s 0 && anyB s 1 then .doom s else .promise s, ws)
  | .doom s => p.swap ws 4 a.sl s (moveI s 5 false) (.done 7 0 0) .judge
  | .promise s => p.swap ws 4 a.sl s (moveI s 3 true) .count .judge
  | .count =>
    let w := p.at ws 1 0
    (bif decide (w % 16 - 1 ≥ 0) then .help 0 w 0 else bif decide (w / 16 ≥ p.Q) then lvNo 6 else bif nextB w then .number w else lvNo 6, ws)
  | .help j hw hs => helpL p ws hw hs (fun j s => .help j hw s) .count j
  | .number w => p.swap ws 1 0 w (if nextB w = true then nextI w a.sl else 0) (.note 0 w (if nextB w = true then nextI w a.sl else 0) 0) .count
  | .note j w hw hs => helpL p ws hw hs (fun j s => .note j w hw s) (.lv false 0 (-1) 0 0 (w / 16 + 1)) j
  | .abt => (.lv true (p.at ws 4 a.sl) 5 0 0 0, ws)
  | .olook sl =>
    let w := p.at ws 4 sl
    (bif stI w != 0 then ogoes p sl else bif decide (gnI w > p.G) then ogoes p sl else .otake sl w, ws)
  | .otake sl w => p.swap ws 4 sl w (moveI w 1 false) (.otally sl w) (ogoes p sl)
  | .otally sl w =>
    let t := p.at ws 1 0
    (bif decide (t % 16 - 1 ≥ 0) then .ohelp 0 sl w t 0 else .onote sl w (t / 16), ws)
  | .ohelp j sl w hw hs => helpL p ws hw hs (fun j s => .ohelp j sl w hw s) (.otally sl w) j
  | .onote sl w q => (.ostart sl w q, p.set ws 5 sl q)
  | .ostart sl w q => (.done 0 (mkI sl (gnI w)) q, p.set ws 4 sl (moveI w 2 false))
  | .lv false ls st e h n => (.lv true (p.at ws 4 a.sl) st e h n, ws)
  | .lv true ls st e h n => p.swap ws 4 a.sl ls (moveI ls (bif decide (st < 0) || decide (st > 7) then stI ls else st) false) (.done e h n) (.lv false ls st e h n)
  | .done e h n => (.done e h n, ws)
/-- Slots, some in a row. -/
def slotsOk (l : List Int) : Prop := ∀ x ∈ l, 0 ≤ x ∧ x ≤ 11
/-- What holds of a place. -/
def VL (p : Pm) (a : Ar) : Loc → Prop
  | .en _ es => isW es = true
  | .mark _ w => isW w = true
  | .rival _ w l => isW w = true ∧ l ≠ [] ∧ slotsOk l ∧ l.length ≤ 12
  | .num _ w l => isW w = true ∧ l ≠ [] ∧ slotsOk l ∧ l.length ≤ 12
  | .join j _ js l => j ≤ 2 ∧ isW js = true ∧ l ≠ [] ∧ slotsOk l ∧ l.length ≤ 12
  | .own _ _ os l => isW os = true ∧ l ≠ [] ∧ slotsOk l ∧ l.length ≤ 12
  | .doom s => isW s = true
  | .promise s => isW s = true
  | .help j hw hs => j ≤ 3 ∧ isW hw = true ∧ isW hs = true
  | .number w => isW w = true ∧ nextB w = true
  | .note j w hw hs => j ≤ 3 ∧ isW w = true ∧ isW hw = true ∧ isW hs = true
  | .olook sl => 0 ≤ sl ∧ sl < p.S
  | .otake sl w => 0 ≤ sl ∧ sl < p.S ∧ isW w = true ∧ gnI w ≤ p.G
  | .otally sl w => 0 ≤ sl ∧ sl < p.S ∧ isW w = true ∧ gnI w ≤ p.G
  | .ohelp j sl w hw hs => j ≤ 3 ∧ 0 ≤ sl ∧ sl < p.S ∧ isW w = true ∧ gnI w ≤ p.G ∧ isW hw = true ∧ isW hs = true
  | .onote sl w q => 0 ≤ sl ∧ sl < p.S ∧ isW w = true ∧ gnI w ≤ p.G ∧ isW q = true
  | .ostart sl w q => 0 ≤ sl ∧ sl < p.S ∧ isW w = true ∧ gnI w ≤ p.G ∧ isW q = true
  | .lv _ ls _ _ _ _ => isW ls = true
  | _ => True
/-- What holds of what an operation was started with. -/
structure Ar.Ok (p : Pm) (a : Ar) : Prop where
  eh : isW a.eh = true
  named : okT a.eh p.S = true
  s0 : 0 ≤ a.sl
  s1 : a.sl < p.S
  kd : a.kd = 0 ∨ a.kd = 1
theorem othL_mem {w kd sl x : Int} (h : x ∈ othL w kd sl) : 0 ≤ x ∧ x ≤ 11 := by
  unfold othL at h
  have h := (List.mem_filter.1 h).1
  unfold marksTo at h
  obtain ⟨k, hk, rfl⟩ := List.mem_map.1 (List.mem_filter.1 h).1
  have := List.mem_range.1 hk
  omega
theorem othL_slots (w kd sl : Int) : slotsOk (othL w kd sl) := fun x h => othL_mem h
theorem othL_len (w kd sl : Int) : (othL w kd sl).length ≤ 12 := Nat.le_trans (List.length_filter_le _ _) (marksTo_len w kd 12)
theorem slots_tail {l : List Int} (h : slotsOk l) : slotsOk l.tail := fun x hx => h x (List.mem_of_mem_tail hx)
section
variable {p : Pm} {a : Ar} {ws : List Int}
theorem v_nextO {n : Int} {l : List Int} (h1 : slotsOk l) (h2 : l.length ≤ 12) : VL p a (nextO n l) := by
  cases l with
  | nil => exact rfl
  | cons x r => exact ⟨Nat.zero_le _, rfl, by simp, h1, h2⟩
theorem v_found {n w : Int} : VL p a (foundL a n w) := v_nextO (othL_slots _ _ _) (othL_len _ _ _)
theorem v_goes {n w : Int} {l : List Int} (hw : isW w = true) (h1 : slotsOk l) (h2 : l.length ≤ 12) : VL p a (goesL a n w l) := by
  cases l with
  | nil =>
    show VL p a (bif _ then _ else _)
    cases bitI w (12 * a.kd + a.sl)
    · exact hw
    · exact v_found
  | cons x r => exact ⟨hw, by simp, h1, h2⟩
theorem v_judge {n s : Int} {l : List Int} (hs : isW s = true) (h0 : l ≠ []) (h1 : slotsOk l) (h2 : l.length ≤ 12) : VL p a (judgeJ a n s l) := by
  unfold judgeJ
  cases bitI s (12 * (1 - a.kd) + a.sl)
  · cases (stI s != 2 && anyB s a.kd)
    · exact ⟨Nat.le_refl _, hs, h0, h1, h2⟩
    · exact rfl
  · exact ⟨rfl, h0, h1, h2⟩
theorem v_fst : VL p a (fstL a) := by
  unfold fstL
  split
  · exact trivial
  · split <;> exact trivial
theorem tail_len {l : List Int} (h : l.length ≤ 12) : l.tail.length ≤ 12 := by rw [List.length_tail]; omega
theorem v_swap {k o old v : Int} {x y : Loc} (hx : VL p a x) (hy : VL p a y) : VL p a (p.swap ws k o old v x y).1 := by
  unfold Pm.swap
  cases p.cas ws k o old
  · exact hy
  · exact hx
theorem v_ogoes {sl : Int} (h : 0 ≤ sl) : VL p a (ogoes p sl) := by
  unfold ogoes
  split
  · exact trivial
  · exact ⟨by omega, by omega⟩
theorem tail_ok {l : List Int} (h1 : slotsOk l) : slotsOk l.tail := slots_tail h1
theorem v_help {hw hs : Int} {b : Nat → Int → Loc} {z : Loc} {j : Nat} (g : p.good ws) (hz : VL p a z) (hb : ∀ i s, i ≤ 3 → isW s = true → VL p a (b i s)) (hh : isW hs = true) (hj : j ≤ 3) : VL p a (helpL p ws hw hs b z j).1 := by
  have q := g.isW 4 (hw % 16 - 1)
  match j, hj with
  | 0, _ => exact v_swap (hb 1 hs (by omega) hh) (hb 1 hs (by omega) hh)
  | 1, _ =>
    show VL p a (bif _ then _ else _)
    cases stI (p.at ws 4 (hw % 16 - 1)) == 3
    · exact hb 3 _ (by omega) q
    · exact hb 2 _ (by omega) q
  | 2, _ => exact v_swap (hb 3 hs (by omega) hh) (hb 1 hs (by omega) hh)
  | 3, _ => exact v_swap hz hz
/-- What holds stays so. -/
theorem step_v (g : p.good ws) (x : Loc) (h : VL p a x) (ha : 0 ≤ a.sl ∧ a.sl < p.S) : VL p a (locS p a ws x).1 := by
  have W : ∀ k o, isW (p.at ws k o) = true := fun k o => g.isW k o
  cases x with
  | en tk es =>
    cases tk
    · show VL p a (bif _ then _ else _)
      cases (gnI (p.at ws 4 a.sl) != genI a.eh) <;> cases (stI (p.at ws 4 a.sl) == 0) <;> cases (stI (p.at ws 4 a.sl) == 1) <;> cases (bitI (p.at ws 4 a.sl) 26) <;> cases (stI (p.at ws 4 a.sl) == 2) <;> first | exact trivial | exact W _ _
    · exact v_swap v_fst h
  | snap => exact trivial
  | look n =>
    refine v_goes (W _ _) ?_ ?_ <;> split
    · intro x hx; cases hx
    · exact othL_slots _ _ _
    · exact Nat.zero_le _
    · exact othL_len _ _ _
  | mark n w => exact v_swap v_found trivial
  | rival n w l =>
    show VL p a (bif _ then _ else _)
    cases (stI (p.at ws 4 (l.headD 0)) == 2) <;> cases (stI (p.at ws 4 (l.headD 0)) == 3) <;> cases (stI (p.at ws 4 (l.headD 0)) == 4) <;> first | exact rfl | exact h | exact v_goes h.1 (tail_ok h.2.2.1) (tail_len h.2.2.2)
  | num n w l =>
    show VL p a (bif _ then _ else _)
    cases (p.at ws 6 (l.headD 0) != 0 && decide (p.at ws 6 (l.headD 0) ≤ n))
    · exact rfl
    · exact v_goes h.1 (tail_ok h.2.2.1) (tail_len h.2.2.2)
  | join j n js l =>
    obtain ⟨hj, h1, h2, h3, h4⟩ := h
    match j, hj with
    | 0, _ =>
      show VL p a (bif _ then _ else _)
      cases (stI (p.at ws 4 (l.headD 0)) == 4) <;> cases (stI (p.at ws 4 (l.headD 0)) == 2) <;> cases (stI (p.at ws 4 (l.headD 0)) == 3) <;> first | exact v_nextO (tail_ok h3) (tail_len h4) | exact ⟨by omega, W _ _, h2, h3, h4⟩ | exact v_judge (W _ _) h2 h3 h4
    | 1, _ =>
      show VL p a (bif _ then _ else _)
      cases (p.at ws 6 (l.headD 0) != 0 && decide (p.at ws 6 (l.headD 0) ≤ n))
      · exact v_judge h1 h2 h3 h4
      · exact v_nextO (tail_ok h3) (tail_len h4)
    | 2, _ => exact v_swap ⟨rfl, h2, h3, h4⟩ ⟨by omega, h1, h2, h3, h4⟩
  | own lk n os l =>
    obtain ⟨h1, h2, h3, h4⟩ := h
    cases lk
    · show VL p a (bif _ then _ else _)
      cases (putI (p.at ws 4 a.sl) (12 * a.kd + l.headD 0) true == p.at ws 4 a.sl)
      · exact ⟨W _ _, h2, h3, h4⟩
      · exact v_nextO (tail_ok h3) (tail_len h4)
    · exact v_swap (v_nextO (tail_ok h3) (tail_len h4)) ⟨h1, h2, h3, h4⟩
  | judge =>
    show VL p a (bif _ then _ else _)
    cases (anyB (p.at ws 4 a.sl) 0 && anyB (p.at ws 4 a.sl) 1) <;> exact W _ _
  | doom s => exact v_swap trivial trivial
  | promise s => exact v_swap trivial trivial
  | count =>
    show VL p a (bif _ then _ else _)
    cases decide (p.at ws 1 0 % 16 - 1 ≥ 0) <;> cases decide (p.at ws 1 0 / 16 ≥ p.Q) <;> rcases bool_two (nextB (p.at ws 1 0)) with hn | hn <;> rw [hn] <;> first | exact rfl | exact ⟨W _ _, hn⟩ | exact ⟨Nat.zero_le _, W _ _, rfl⟩
  | help j hw hs => exact v_help g trivial (fun i s hi hs' => ⟨hi, h.2.1, hs'⟩) h.2.2 h.1
  | number w =>
    refine v_swap ⟨Nat.zero_le _, h.1, ?_, rfl⟩ trivial
    rw [h.2, if_pos rfl]
    have := h.2
    have hw := isW_iff.1 h.1
    simp only [nextB, decide_eq_true_eq] at this
    have := g.cfg
    exact isW_iff.2 (by unfold nextI; omega)
  | note j w hw hs => exact v_help g rfl (fun i s hi hs' => ⟨hi, h.2.1, h.2.2.1, hs'⟩) h.2.2.2 h.1
  | abt => exact W _ _
  | olook sl =>
    show VL p a (bif _ then _ else _)
    cases (stI (p.at ws 4 sl) != 0)
    · rcases bool_two (decide (gnI (p.at ws 4 sl) > p.G)) with hg | hg <;> rw [hg]
      · exact v_ogoes h.1
      · exact ⟨h.1, h.2, W _ _, by have := of_decide_eq_false hg; omega⟩
    · exact v_ogoes h.1
  | otake sl w => exact v_swap h (v_ogoes h.1)
  | otally sl w =>
    show VL p a (bif _ then _ else _)
    cases decide (p.at ws 1 0 % 16 - 1 ≥ 0)
    · have := isW_iff.1 (W 1 0)
      exact ⟨h.1, h.2.1, h.2.2.1, h.2.2.2, isW_iff.2 (by omega)⟩
    · exact ⟨Nat.zero_le _, h.1, h.2.1, h.2.2.1, h.2.2.2, W _ _, rfl⟩
  | ohelp j sl w hw hs => exact v_help g ⟨h.2.1, h.2.2.1, h.2.2.2.1, h.2.2.2.2.1⟩ (fun i s hi hs' => ⟨hi, h.2.1, h.2.2.1, h.2.2.2.1, h.2.2.2.2.1, h.2.2.2.2.2.1, hs'⟩) h.2.2.2.2.2.2 h.1
  | onote sl w q => exact h
  | ostart sl w q => exact trivial
  | lv lk ls st e h' n =>
    cases lk
    · exact W _ _
    · exact v_swap trivial h
  | done e h' n => exact trivial
end
end Go.Proofs.YtifojacfedjedaaGreat.Bound
end

section
namespace Go.Proofs.YtifojacfedjedaaGreat.Bound
open Go.Proofs.YtifojacfedjedaaGreat.Ev Go.Proofs.YtifojacfedjedaaGreat.ChartMath
set_option linter.unusedVariables false
set_option linter.unusedSimpArgs false
abbrev Pm.mem (p : Pm) (s : MS) : List Atom := mA p.T p.S p.K p.G p.Q p.l p.c s
/-- A step of a machine is what is said. -/
def Sim (p : Pm) (f : Nat → List Atom → Tree (Nat × List Atom)) (At : Loc → Nat → List Atom → Prop) (k : Nat) (X : List Atom) (s : MS) (r : Loc × List Int) : Prop :=
  ∃ k' X' s', (f k (X ++ p.mem s)).get = some (k', X' ++ p.mem s') ∧ At r.1 k' X' ∧ s'.ws = r.2 ∧ s'.many = IntKind.i64.wrap (s.many + 1)
section
variable {p : Pm} {f : Nat → List Atom → Tree (Nat × List Atom)} {At : Loc → Nat → List Atom → Prop} {k : Nat} {X : List Atom} {s : MS}
/-- It loads. -/
theorem Sim.load {x : Loc} {k' : Nat} {X' : List Atom} {kd o : Int} (h : (f k (X ++ p.mem s)).get = some (k', X' ++ p.mem (p.ld s kd o))) (ha : At x k' X') : Sim p f At k X s (x, s.ws) := ⟨k', X', _, h, ha, rfl, rfl⟩
/-- It stores. -/
theorem Sim.store {x : Loc} {k' : Nat} {X' : List Atom} {kd o v : Int} (h : (f k (X ++ p.mem s)).get = some (k', X' ++ p.mem (mstore p.T p.S p.K s kd o v))) (ha : At x k' X') : Sim p f At k X s (x, p.set s.ws kd o v) := ⟨k', X', _, h, ha, rfl, rfl⟩
/-- It swaps. -/
theorem Sim.swap {x y : Loc} {k1 k2 : Nat} {X1 X2 : List Atom} {kd o old v : Int}
    (h1 : p.cas s.ws kd o old = true → (f k (X ++ p.mem s)).get = some (k1, X1 ++ p.mem (mswap p.T p.S p.K s kd o old v)) ∧ At x k1 X1)
    (h2 : p.cas s.ws kd o old = false → (f k (X ++ p.mem s)).get = some (k2, X2 ++ p.mem (mswap p.T p.S p.K s kd o old v)) ∧ At y k2 X2) : Sim p f At k X s (p.swap s.ws kd o old v x y) := by
  unfold Pm.swap
  rcases bool_two (p.cas s.ws kd o old) with h | h
  · rw [h]
    obtain ⟨e, ha⟩ := h1 h
    exact ⟨k1, X1, _, e, ha, mswap_ws h, rfl⟩
  · rw [h]
    obtain ⟨e, ha⟩ := h2 h
    refine ⟨k2, X2, _, e, ha, ?_, rfl⟩
    show (if mok p.T p.S p.K s kd o old = true then _ else _) = s.ws
    rw [show mok p.T p.S p.K s kd o old = false from h, if_neg (by decide)]
end
theorem othL_none {l : List Int} (h : l = []) : l.isEmpty = true := by rw [h]; rfl
theorem wr_n {n : Nat} (h : n ≤ 12) : IntKind.i64.wrap ((n : Int) + 1) = ((n + 1 : Nat) : Int) := by rw [wr_s (by omega) (by omega)]; rfl
def rdF (k : Nat) (x : List Atom) : Tree (Nat × List Atom) := nthD (fun _ => .bad) rdOs k x
/-- Where a Read stands. -/
def At1 (a : Ar) : Loc → Nat → List Atom → Prop
  | .en tk es, k, X => k = 0 ∧ ∃ ec ew, X = [.i a.ky, .i a.sl, .i a.sl, .i es, .i a.eh, .n 1, .n ec, .b tk, .b false, .i 0, .i ew, .ws [2]]
  | .snap, k, X => k = 1 ∧ X = [.i a.ky, .i a.sl]
  | .look n, k, X => k = 2 ∧ X = [.i a.ky, .i a.sl, .i n]
  | .mark n w, k, X => k = 3 ∧ X = [.i a.ky, .i a.sl, .i n, .i w]
  | .join j n js l, k, X => k = 4 + j ∧ ∃ (at_ lc : Nat) (ls : List Int), l = ls.drop at_ ∧ at_ < ls.length ∧ ls.length ≤ 12 ∧ X = [.i a.ky, .i a.sl, .i n, .i (ls.getD at_ 0), .i at_, .n ls.length, .n lc, .ws ls, .i (ls.getD at_ 0), .i 1, .i a.sl, .i js, .i n, .i 0]
  | .own lk n os l, k, X => k = 7 ∧ ∃ (at_ lc : Nat) (ls : List Int), l = ls.drop at_ ∧ at_ < ls.length ∧ ls.length ≤ 12 ∧ X = [.i a.ky, .i a.sl, .i n, .i (ls.getD at_ 0), .i at_, .n ls.length, .n lc, .ws ls, .i a.sl, .i 0, .i (ls.getD at_ 0), .i os, .b lk, .b false]
  | .lv lk ls st e h n, k, X => k = 8 ∧ h = 0 ∧ n = 0 ∧ X = [.i e, .i a.sl, .i ls, .i st, .b lk, .b false]
  | .done e h n, k, X => k = 9 ∧ h = 0 ∧ n = 0 ∧ X = [.i e]
  | _, _, _ => False
section
variable {p : Pm} {a : Ar} {k : Nat} {X : List Atom} {s : MS} {ky sl eh : Int}
theorem r_en {tk : Bool} {es : Int} (g : p.good s.ws) (ha : Ar.Ok p a) (hM : a.M = 1) (hv : isW es = true) {ec : Nat} {ew : Int} : Sim p rdF (At1 a) 0 [.i a.ky, .i a.sl, .i a.sl, .i es, .i a.eh, .n 1, .n ec, .b tk, .b false, .i 0, .i ew, .ws [2]] s (locS p a s.ws (.en tk es)) := by
  have e0 : [(2 : Int)].getD 0 0 = 2 := rfl
  cases tk
  · have hW := g.isW 4 a.sl
    have q1 := bool_two (gnI (p.at s.ws 4 a.sl) != genI a.eh)
    have q2 := bool_two (stI (p.at s.ws 4 a.sl) == 0)
    have q3 := bool_two (stI (p.at s.ws 4 a.sl) == 1)
    have q4 := bool_two (bitI (p.at s.ws 4 a.sl) 26)
    have q5 := bool_two (stI (p.at s.ws 4 a.sl) == 2)
    rcases q1 with q1 | q1 <;> rcases q2 with q2 | q2 <;> rcases q3 with q3 | q3 <;> rcases q4 with q4 | q4 <;> rcases q5 with q5 | q5 <;>
      simp only [locS, q1, q2, q3, q4, q5, cond_true, cond_false] <;>
      refine Sim.load (kd := 4) (o := a.sl) (brI ⟨rfl, rfl, rfl, rfl, rfl⟩ (by simp only [pt_rd0, den, Tree.get, ha.eh, ha.named, g.rowB, mat_lat, hW, q1, q2, q3, q4, q5, e0, Bool.not_true, Bool.not_false, cond_true, cond_false] <;> rfl)) ?_ <;>
      first | exact ⟨rfl, rfl, rfl, rfl⟩ | exact ⟨rfl, _, _, rfl⟩
  · refine Sim.swap (fun h => ⟨brI ⟨rfl, rfl, rfl, rfl, rfl⟩ (by simp only [pt_rd0, den, Tree.get, ha.eh, ha.named, g.rowB, hv, show mok p.T p.S p.K s 4 a.sl es = true from h, Bool.not_true, Bool.not_false, cond_true, cond_false] <;> rfl), ?_⟩) (fun h => ⟨brI ⟨rfl, rfl, rfl, rfl, rfl⟩ (by simp only [pt_rd0, den, Tree.get, ha.eh, ha.named, g.rowB, hv, show mok p.T p.S p.K s 4 a.sl es = false from h, Bool.not_true, Bool.not_false, cond_true, cond_false] <;> rfl), ?_⟩)
    · unfold fstL
      rw [hM, if_neg (by decide), if_neg (by decide)]
      exact ⟨rfl, rfl⟩
    · exact ⟨rfl, _, _, rfl⟩
theorem r_snap (g : p.good s.ws) : Sim p rdF (At1 a) 1 [.i a.ky, .i a.sl] s (locS p a s.ws .snap) :=
  Sim.load (kd := 5) (o := a.sl) (by show (den (pt_rd1 _ _ _ _ _ _ _ _ _ _)).get = _; simp only [pt_rd1, den, Tree.get, g.rowB, cond_true] <;> rfl) ⟨rfl, rfl⟩
theorem f0 (hk : a.kd = 0) (n w : Int) : foundL a n w = nextO n (othL w 1 a.sl) := by unfold foundL; rw [hk]; rfl
theorem j0 (hk : a.kd = 0) (n w : Int) (l : List Int) : judgeJ a n w l = bif bitI w (12 * 1 + a.sl) then .own false n 0 l else bif stI w != 2 && anyB w 0 then lvNo 7 else .join 2 n w l := by unfold judgeJ; rw [hk]; rfl
theorem nextO_ne {n : Int} {l : List Int} (h : l ≠ []) : nextO n l = .join 0 n 0 l := by
  cases l with
  | nil => exact absurd rfl h
  | cons x r => rfl
theorem d_mk (ha : Ar.Ok p a) (g : p.good s.ws) : decide ((0 : Int) ≤ 0 ∧ (0 : Int) ≤ 1 ∧ (0 : Int) ≤ a.sl ∧ a.sl ≤ 11) = true := decide_eq_true (by have := ha.s0; have := ha.s1; have := g.cfg; omega)
theorem d_10 : decide ((1 : Int) = 0 ∨ (1 : Int) = 1) = true := rfl
theorem d_a {x : Int} {r : List Int} : decide ((0 : Int) ≥ ((x :: r).length : Int)) = false := decide_eq_false (by simp only [List.length_cons]; omega)
theorem d_b {x : Int} {r : List Int} : decide ((0 : Int) ≤ 0 ∧ (0 : Int) < ((x :: r).length : Int)) = true := decide_eq_true (by simp only [List.length_cons]; omega)
theorem d_c {x : Int} {r : List Int} : decide (0 < (x :: r).length) = true := decide_eq_true (by simp only [List.length_cons]; omega)
theorem r_look {n : Int} (g : p.good s.ws) (ha : Ar.Ok p a) (hk : a.kd = 0) : Sim p rdF (At1 a) 2 [.i a.ky, .i a.sl, .i n] s (locS p a s.ws (.look n)) := by
  have hW := g.isW 8 a.ky
  have hd := d_mk ha g
  have e : locS p a s.ws (.look n) = (bif bitI (p.at s.ws 8 a.ky) (12 * 0 + a.sl) then nextO n (othL (p.at s.ws 8 a.ky) 1 a.sl) else .mark n (p.at s.ws 8 a.ky), s.ws) := by
    simp only [locS, goesL, f0 hk]
    rw [hk]
    rfl
  rw [e]
  have q1 := bool_two (bitI (p.at s.ws 8 a.ky) (12 * 0 + a.sl))
  have hlen := othL_len (p.at s.ws 8 a.ky) 1 a.sl
  rcases q1 with q1 | q1
  · cases hL : othL (p.at s.ws 8 a.ky) 1 a.sl with
    | nil =>
      rw [q1, cond_true]
      exact Sim.load (kd := 8) (o := a.ky) (by show (den (pt_rd2 _ _ _ _ _ _ _ _ _ _ _)).get = _; simp only [pt_rd2, den, Tree.get, g.rowB, mat_lat, hW, hd, q1, hL, d_10, List.isEmpty_nil, Bool.and_self, cond_true, cond_false] <;> rfl) ⟨rfl, rfl, rfl, rfl⟩
    | cons x r =>
      rw [q1, cond_true]
      rw [hL] at hlen
      exact Sim.load (kd := 8) (o := a.ky) (by show (den (pt_rd2 _ _ _ _ _ _ _ _ _ _ _)).get = _; simp only [pt_rd2, den, Tree.get, g.rowB, mat_lat, hW, hd, q1, hL, d_10, d_a, d_b, d_c, List.isEmpty_cons, Bool.and_self, cond_true, cond_false] <;> rfl) ⟨rfl, 0, _, x :: r, rfl, by simp, hlen, rfl⟩
  · rw [q1, cond_false]
    exact Sim.load (kd := 8) (o := a.ky) (by show (den (pt_rd2 _ _ _ _ _ _ _ _ _ _ _)).get = _; simp only [pt_rd2, den, Tree.get, g.rowB, mat_lat, hW, hd, q1, Bool.and_self, cond_true, cond_false] <;> rfl) ⟨rfl, rfl⟩
theorem r_mark {n w : Int} (g : p.good s.ws) (ha : Ar.Ok p a) (hk : a.kd = 0) (hw : isW w = true) : Sim p rdF (At1 a) 3 [.i a.ky, .i a.sl, .i n, .i w] s (locS p a s.ws (.mark n w)) := by
  have hd := d_mk ha g
  have hlen := othL_len w 1 a.sl
  have e : locS p a s.ws (.mark n w) = p.swap s.ws 8 a.ky w (putI w (12 * 0 + a.sl) true) (nextO n (othL w 1 a.sl)) (.look n) := by
    simp only [locS, f0 hk]
    rw [hk]
  rw [e]
  cases hL : othL w 1 a.sl with
  | nil =>
    exact Sim.swap (fun h => ⟨by show (den (pt_rd3 _ _ _ _ _ _ _ _ _ _ _ _)).get = _; simp only [pt_rd3, den, Tree.get, g.rowB, hw, hd, hL, d_10, show mok p.T p.S p.K s 8 a.ky w = true from h, List.isEmpty_nil, Bool.and_self, cond_true, cond_false] <;> rfl, ⟨rfl, rfl, rfl, rfl⟩⟩)
      (fun h => ⟨by show (den (pt_rd3 _ _ _ _ _ _ _ _ _ _ _ _)).get = _; simp only [pt_rd3, den, Tree.get, g.rowB, hw, hd, show mok p.T p.S p.K s 8 a.ky w = false from h, Bool.and_self, cond_true, cond_false] <;> rfl, ⟨rfl, rfl⟩⟩)
  | cons x r =>
    rw [hL] at hlen
    exact Sim.swap (fun h => ⟨by show (den (pt_rd3 _ _ _ _ _ _ _ _ _ _ _ _)).get = _; simp only [pt_rd3, den, Tree.get, g.rowB, hw, hd, hL, d_10, d_a, d_b, d_c, show mok p.T p.S p.K s 8 a.ky w = true from h, List.isEmpty_cons, Bool.and_self, cond_true, cond_false] <;> rfl, ⟨rfl, 0, _, x :: r, rfl, by simp, hlen, rfl⟩⟩)
      (fun h => ⟨by show (den (pt_rd3 _ _ _ _ _ _ _ _ _ _ _ _)).get = _; simp only [pt_rd3, den, Tree.get, g.rowB, hw, hd, show mok p.T p.S p.K s 8 a.ky w = false from h, Bool.and_self, cond_true, cond_false] <;> rfl, ⟨rfl, rfl⟩⟩)
theorem head_drop {ls : List Int} {i : Nat} (h : i < ls.length) : (ls.drop i).headD 0 = ls.getD i 0 := by
  rw [List.headD_eq_head?_getD, List.head?_drop, List.getD_eq_getElem?_getD]
theorem tail_drop {ls : List Int} {i : Nat} : (ls.drop i).tail = ls.drop (i + 1) := List.tail_drop
theorem drop_ne {ls : List Int} {i : Nat} (h : i < ls.length) : ls.drop i ≠ [] := fun e => by have := congrArg List.length e; simp only [List.length_drop, List.length_nil] at this; omega
theorem d_more {i m : Nat} (h : i + 1 < m) : decide (((i + 1 : Nat) : Int) ≥ (m : Int)) = false ∧ decide ((0 : Int) ≤ ((i + 1 : Nat) : Int) ∧ ((i + 1 : Nat) : Int) < (m : Int)) = true ∧ decide (i + 1 < m) = true := ⟨decide_eq_false (by omega), decide_eq_true (by omega), decide_eq_true h⟩
theorem d_last {i m : Nat} (h : ¬ i + 1 < m) : decide (((i + 1 : Nat) : Int) ≥ (m : Int)) = true := decide_eq_true (by omega)
section
variable {n js os : Int} {at_ lc : Nat} {ls : List Int} (g : p.good s.ws) (ha : Ar.Ok p a) (hk : a.kd = 0) (h1 : at_ < ls.length) (h2 : ls.length ≤ 12)
include g ha hk h1 h2
theorem r_join0 (hs : slotsOk (ls.drop at_)) : Sim p rdF (At1 a) 4 [.i a.ky, .i a.sl, .i n, .i (ls.getD at_ 0), .i at_, .n ls.length, .n lc, .ws ls, .i (ls.getD at_ 0), .i 1, .i a.sl, .i js, .i n, .i 0] s (locS p a s.ws (.join 0 n js (ls.drop at_))) := by
  have hW := g.isW 4 (ls.getD at_ 0)
  have hsd : sideOk 1 a.sl = true := decide_eq_true (by have := ha.s0; have := ha.s1; have := g.cfg; omega)
  have hz : decide (IntKind.i64.wrap (1 - 1) = 0 ∨ IntKind.i64.wrap (1 - 1) = 1) = true := rfl
  have hz2 : IntKind.i64.wrap (1 - 1) = 0 := rfl
  simp only [locS, head_drop h1, tail_drop, j0 hk]
  have q1 := bool_two (stI (p.at s.ws 4 (ls.getD at_ 0)) == 4)
  have q2 := bool_two (stI (p.at s.ws 4 (ls.getD at_ 0)) == 2)
  have q3 := bool_two (stI (p.at s.ws 4 (ls.getD at_ 0)) == 3)
  have q4 := bool_two (bitI (p.at s.ws 4 (ls.getD at_ 0)) (12 * 1 + a.sl))
  have q5 := bool_two (anyB (p.at s.ws 4 (ls.getD at_ 0)) 0)
  have q6 : (stI (p.at s.ws 4 (ls.getD at_ 0)) != 2) = !(stI (p.at s.ws 4 (ls.getD at_ 0)) == 2) := rfl
  rcases q1 with q1 | q1
  · simp only [q1, cond_true]
    exact Sim.load (kd := 4) (o := ls.getD at_ 0) (brI ⟨rfl, rfl, rfl, rfl, rfl⟩ (by simp only [pt_rd4, den, Tree.get, g.rowB, mat_lat, hW, q1, cond_true, cond_false] <;> rfl)) ⟨rfl, at_, lc, ls, rfl, h1, h2, rfl⟩
  · rcases q2 with q2 | q2
    · rcases q4 with q4 | q4
      · simp only [q1, q2, q4, cond_true, cond_false]
        exact Sim.load (kd := 4) (o := ls.getD at_ 0) (brI ⟨rfl, rfl, rfl, rfl, rfl⟩ (by simp only [pt_rd4, den, Tree.get, g.rowB, mat_lat, hW, hsd, q1, q2, q4, Bool.and_self, cond_true, cond_false] <;> rfl)) ⟨rfl, at_, lc, ls, rfl, h1, h2, rfl⟩
      · simp only [q1, q2, q4, q6, cond_true, cond_false, Bool.not_true, Bool.false_and]
        exact Sim.load (kd := 4) (o := ls.getD at_ 0) (brI ⟨rfl, rfl, rfl, rfl, rfl⟩ (by simp only [pt_rd4, den, Tree.get, g.rowB, mat_lat, hW, hsd, q1, q2, q4, q6, Bool.not_true, Bool.and_self, cond_true, cond_false] <;> rfl)) ⟨rfl, at_, lc, ls, rfl, h1, h2, rfl⟩
    · rcases q3 with q3 | q3
      · rcases q4 with q4 | q4
        · simp only [q1, q2, q3, q4, cond_true, cond_false]
          exact Sim.load (kd := 4) (o := ls.getD at_ 0) (brI ⟨rfl, rfl, rfl, rfl, rfl⟩ (by simp only [pt_rd4, den, Tree.get, g.rowB, mat_lat, hW, hsd, q1, q2, q3, q4, Bool.and_self, cond_true, cond_false] <;> rfl)) ⟨rfl, at_, lc, ls, rfl, h1, h2, rfl⟩
        · rcases q5 with q5 | q5
          · simp only [q1, q2, q3, q4, q5, q6, cond_true, cond_false, Bool.not_false, Bool.true_and]
            exact Sim.load (kd := 4) (o := ls.getD at_ 0) (brI ⟨rfl, rfl, rfl, rfl, rfl⟩ (by simp only [pt_rd4, den, Tree.get, g.rowB, mat_lat, hW, hsd, hz, hz2, q1, q2, q3, q4, q5, q6, Bool.not_false, Bool.and_self, cond_true, cond_false] <;> rfl)) ⟨rfl, rfl, rfl, rfl⟩
          · simp only [q1, q2, q3, q4, q5, q6, cond_true, cond_false, Bool.not_false, Bool.true_and]
            exact Sim.load (kd := 4) (o := ls.getD at_ 0) (brI ⟨rfl, rfl, rfl, rfl, rfl⟩ (by simp only [pt_rd4, den, Tree.get, g.rowB, mat_lat, hW, hsd, hz, hz2, q1, q2, q3, q4, q5, q6, Bool.not_false, Bool.and_self, cond_true, cond_false] <;> rfl)) ⟨rfl, at_, lc, ls, rfl, h1, h2, rfl⟩
      · simp only [q1, q2, q3, cond_false]
        by_cases hm : at_ + 1 < ls.length
        · obtain ⟨d1, d2, d3⟩ := d_more hm
          rw [nextO_ne (drop_ne hm)]
          exact Sim.load (kd := 4) (o := ls.getD at_ 0) (brI ⟨rfl, rfl, rfl, rfl, rfl⟩ (by simp only [pt_rd4, den, Tree.get, g.rowB, mat_lat, hW, q1, q2, q3, wr_n (show at_ ≤ 12 by omega), d1, d2, d3, Int.toNat_natCast, Nat.zero_add, Nat.mul_one, cond_true, cond_false] <;> rfl)) ⟨rfl, at_ + 1, lc, ls, rfl, hm, h2, rfl⟩
        · rw [List.drop_eq_nil_of_le (by omega)]
          exact Sim.load (kd := 4) (o := ls.getD at_ 0) (brI ⟨rfl, rfl, rfl, rfl, rfl⟩ (by simp only [pt_rd4, den, Tree.get, g.rowB, mat_lat, hW, q1, q2, q3, wr_n (show at_ ≤ 12 by omega), d_last hm, cond_true, cond_false] <;> rfl)) ⟨rfl, rfl, rfl, rfl⟩
theorem r_join1 (hs : slotsOk (ls.drop at_)) (hv : isW js = true) : Sim p rdF (At1 a) 5 [.i a.ky, .i a.sl, .i n, .i (ls.getD at_ 0), .i at_, .n ls.length, .n lc, .ws ls, .i (ls.getD at_ 0), .i 1, .i a.sl, .i js, .i n, .i 0] s (locS p a s.ws (.join 1 n js (ls.drop at_))) := by
  have hW := g.isW 4 (ls.getD at_ 0)
  have hsd : sideOk 1 a.sl = true := decide_eq_true (by have := ha.s0; have := ha.s1; have := g.cfg; omega)
  have hz : decide (IntKind.i64.wrap (1 - 1) = 0 ∨ IntKind.i64.wrap (1 - 1) = 1) = true := rfl
  have hz2 : IntKind.i64.wrap (1 - 1) = 0 := rfl
  simp only [locS, head_drop h1, tail_drop, j0 hk]
  have q1 := bool_two (p.at s.ws 6 (ls.getD at_ 0) != 0)
  have q2 := bool_two (decide (p.at s.ws 6 (ls.getD at_ 0) ≤ n))
  have q3 := bool_two (stI js != 2)
  have q4 := bool_two (bitI js (12 * 1 + a.sl))
  have q5 := bool_two (anyB js 0)
  have J : ∀ r : Loc, (r = bif bitI js (12 * 1 + a.sl) then .own false n 0 (ls.drop at_) else bif stI js != 2 && anyB js 0 then lvNo 7 else .join 2 n js (ls.drop at_)) → ((p.at s.ws 6 (ls.getD at_ 0) != 0) && decide (p.at s.ws 6 (ls.getD at_ 0) ≤ n)) = false → Sim p rdF (At1 a) 5 [.i a.ky, .i a.sl, .i n, .i (ls.getD at_ 0), .i at_, .n ls.length, .n lc, .ws ls, .i (ls.getD at_ 0), .i 1, .i a.sl, .i js, .i n, .i 0] s (r, s.ws) := by
    rintro r rfl hq
    rcases q3 with q3 | q3 <;> rcases q4 with q4 | q4 <;> rcases q5 with q5 | q5 <;> rcases q1 with q1 | q1 <;> rcases q2 with q2 | q2 <;> rw [q1, q2] at hq
    all_goals first | (cases hq; done) | skip
    all_goals have q1m : (mat p.T p.S p.K s 6 (ls.getD at_ 0) != 0) = _ := q1
    all_goals have q2m : decide (mat p.T p.S p.K s 6 (ls.getD at_ 0) ≤ n) = _ := q2
    all_goals simp only [q3, q4, q5, cond_true, cond_false, Bool.and_self, Bool.false_and, Bool.and_false, Bool.true_and]
    all_goals refine Sim.load (kd := 6) (o := ls.getD at_ 0) (brI ⟨rfl, rfl, rfl, rfl, rfl⟩ (by simp only [pt_rd5, den, Tree.get, g.rowB, hv, hsd, hz, hz2, q1m, q2m, q3, q4, q5, Bool.and_self, cond_true, cond_false] <;> rfl)) ?_
    all_goals first | exact ⟨rfl, at_, lc, ls, rfl, h1, h2, rfl⟩ | exact ⟨rfl, rfl, rfl, rfl⟩
  rcases q1 with q1 | q1
  · rcases q2 with q2 | q2
    · have q1m : (mat p.T p.S p.K s 6 (ls.getD at_ 0) != 0) = true := q1
      have q2m : decide (mat p.T p.S p.K s 6 (ls.getD at_ 0) ≤ n) = true := q2
      simp only [q1, q2, Bool.and_self, cond_true]
      by_cases hm : at_ + 1 < ls.length
      · obtain ⟨d1, d2, d3⟩ := d_more hm
        rw [nextO_ne (drop_ne hm)]
        exact Sim.load (kd := 6) (o := ls.getD at_ 0) (brI ⟨rfl, rfl, rfl, rfl, rfl⟩ (by simp only [pt_rd5, den, Tree.get, g.rowB, q1m, q2m, wr_n (show at_ ≤ 12 by omega), d1, d2, d3, Int.toNat_natCast, Nat.zero_add, Nat.mul_one, cond_true, cond_false] <;> rfl)) ⟨rfl, at_ + 1, lc, ls, rfl, hm, h2, rfl⟩
      · rw [List.drop_eq_nil_of_le (by omega)]
        exact Sim.load (kd := 6) (o := ls.getD at_ 0) (brI ⟨rfl, rfl, rfl, rfl, rfl⟩ (by simp only [pt_rd5, den, Tree.get, g.rowB, q1m, q2m, wr_n (show at_ ≤ 12 by omega), d_last hm, cond_true, cond_false] <;> rfl)) ⟨rfl, rfl, rfl, rfl⟩
    · simp only [q1, q2, Bool.and_false, cond_false]
      exact J _ rfl (by rw [q1, q2]; rfl)
  · simp only [q1, Bool.false_and, cond_false]
    exact J _ rfl (by rw [q1]; rfl)
theorem r_join2 (hs : slotsOk (ls.drop at_)) (hv : isW js = true) : Sim p rdF (At1 a) 6 [.i a.ky, .i a.sl, .i n, .i (ls.getD at_ 0), .i at_, .n ls.length, .n lc, .ws ls, .i (ls.getD at_ 0), .i 1, .i a.sl, .i js, .i n, .i 0] s (locS p a s.ws (.join 2 n js (ls.drop at_))) := by
  have hsd : sideOk 1 a.sl = true := decide_eq_true (by have := ha.s0; have := ha.s1; have := g.cfg; omega)
  have e : locS p a s.ws (.join 2 n js (ls.drop at_)) = p.swap s.ws 4 (ls.getD at_ 0) js (putI js (12 * 1 + a.sl) true) (.own false n 0 (ls.drop at_)) (.join 0 n js (ls.drop at_)) := by
    simp only [locS, head_drop h1]
    rw [hk]
    rfl
  rw [e]
  exact Sim.swap (fun h => ⟨brI ⟨rfl, rfl, rfl, rfl, rfl⟩ (by simp only [pt_rd6, den, Tree.get, g.rowB, hv, hsd, show mok p.T p.S p.K s 4 (ls.getD at_ 0) js = true from h, Bool.and_self, cond_true, cond_false] <;> rfl), ⟨rfl, at_, lc, ls, rfl, h1, h2, rfl⟩⟩)
    (fun h => ⟨brI ⟨rfl, rfl, rfl, rfl, rfl⟩ (by simp only [pt_rd6, den, Tree.get, g.rowB, hv, hsd, show mok p.T p.S p.K s 4 (ls.getD at_ 0) js = false from h, Bool.and_self, cond_true, cond_false] <;> rfl), ⟨rfl, at_, lc, ls, rfl, h1, h2, rfl⟩⟩)
theorem r_ownF (hs : slotsOk (ls.drop at_)) : Sim p rdF (At1 a) 7 [.i a.ky, .i a.sl, .i n, .i (ls.getD at_ 0), .i at_, .n ls.length, .n lc, .ws ls, .i a.sl, .i 0, .i (ls.getD at_ 0), .i os, .b false, .b false] s (locS p a s.ws (.own false n os (ls.drop at_))) := by
  have _h := ha
  have hW := g.isW 4 a.sl
  have ho := hs (ls.getD at_ 0) (by rw [← head_drop h1]; cases h : ls.drop at_ with | nil => exact absurd h (drop_ne h1) | cons x r => simp)
  have hsd : sideOk 0 (ls.getD at_ 0) = true := decide_eq_true (by omega)
  have e : locS p a s.ws (.own false n os (ls.drop at_)) = (bif putI (p.at s.ws 4 a.sl) (12 * 0 + ls.getD at_ 0) true == p.at s.ws 4 a.sl then nextO n (ls.drop (at_ + 1)) else .own true n (p.at s.ws 4 a.sl) (ls.drop at_), s.ws) := by
    simp only [locS, head_drop h1, tail_drop]
    rw [hk]
  rw [e]
  rcases bool_two (putI (p.at s.ws 4 a.sl) (12 * 0 + ls.getD at_ 0) true == p.at s.ws 4 a.sl) with q1 | q1
  · rw [q1, cond_true]
    by_cases hm : at_ + 1 < ls.length
    · obtain ⟨d1, d2, d3⟩ := d_more hm
      rw [nextO_ne (drop_ne hm)]
      exact Sim.load (kd := 4) (o := a.sl) (brI ⟨rfl, rfl, rfl, rfl⟩ (by simp only [pt_rd7, den, Tree.get, g.rowB, mat_lat, hW, hsd, q1, wr_n (show at_ ≤ 12 by omega), d1, d2, d3, Int.toNat_natCast, Nat.zero_add, Nat.mul_one, Bool.and_self, cond_true, cond_false] <;> rfl)) ⟨rfl, at_ + 1, lc, ls, rfl, hm, h2, rfl⟩
    · rw [List.drop_eq_nil_of_le (by omega)]
      exact Sim.load (kd := 4) (o := a.sl) (brI ⟨rfl, rfl, rfl, rfl⟩ (by simp only [pt_rd7, den, Tree.get, g.rowB, mat_lat, hW, hsd, q1, wr_n (show at_ ≤ 12 by omega), d_last hm, Bool.and_self, cond_true, cond_false] <;> rfl)) ⟨rfl, rfl, rfl, rfl⟩
  · rw [q1, cond_false]
    exact Sim.load (kd := 4) (o := a.sl) (brI ⟨rfl, rfl, rfl, rfl⟩ (by simp only [pt_rd7, den, Tree.get, g.rowB, mat_lat, hW, hsd, q1, Bool.and_self, cond_true, cond_false] <;> rfl)) ⟨rfl, at_, lc, ls, rfl, h1, h2, rfl⟩
theorem r_ownT (hs : slotsOk (ls.drop at_)) (hv : isW os = true) : Sim p rdF (At1 a) 7 [.i a.ky, .i a.sl, .i n, .i (ls.getD at_ 0), .i at_, .n ls.length, .n lc, .ws ls, .i a.sl, .i 0, .i (ls.getD at_ 0), .i os, .b true, .b false] s (locS p a s.ws (.own true n os (ls.drop at_))) := by
  have _h := ha
  have ho := hs (ls.getD at_ 0) (by rw [← head_drop h1]; cases h : ls.drop at_ with | nil => exact absurd h (drop_ne h1) | cons x r => simp)
  have hsd : sideOk 0 (ls.getD at_ 0) = true := decide_eq_true (by omega)
  have e : locS p a s.ws (.own true n os (ls.drop at_)) = p.swap s.ws 4 a.sl os (putI os (12 * 0 + ls.getD at_ 0) true) (nextO n (ls.drop (at_ + 1))) (.own false n os (ls.drop at_)) := by
    simp only [locS, head_drop h1, tail_drop]
    rw [hk]
  rw [e]
  by_cases hm : at_ + 1 < ls.length
  · obtain ⟨d1, d2, d3⟩ := d_more hm
    rw [nextO_ne (drop_ne hm)]
    exact Sim.swap (fun h => ⟨brI ⟨rfl, rfl, rfl, rfl⟩ (by simp only [pt_rd7, den, Tree.get, g.rowB, hv, hsd, show mok p.T p.S p.K s 4 a.sl os = true from h, wr_n (show at_ ≤ 12 by omega), d1, d2, d3, Int.toNat_natCast, Nat.zero_add, Nat.mul_one, Bool.and_self, cond_true, cond_false] <;> rfl), ⟨rfl, at_ + 1, lc, ls, rfl, hm, h2, rfl⟩⟩)
      (fun h => ⟨brI ⟨rfl, rfl, rfl, rfl⟩ (by simp only [pt_rd7, den, Tree.get, g.rowB, hv, hsd, show mok p.T p.S p.K s 4 a.sl os = false from h, Bool.and_self, cond_true, cond_false] <;> rfl), ⟨rfl, at_, lc, ls, rfl, h1, h2, rfl⟩⟩)
  · rw [List.drop_eq_nil_of_le (show ls.length ≤ at_ + 1 by omega)]
    exact Sim.swap (fun h => ⟨brI ⟨rfl, rfl, rfl, rfl⟩ (by simp only [pt_rd7, den, Tree.get, g.rowB, hv, hsd, show mok p.T p.S p.K s 4 a.sl os = true from h, wr_n (show at_ ≤ 12 by omega), d_last hm, Bool.and_self, cond_true, cond_false] <;> rfl), ⟨rfl, rfl, rfl, rfl⟩⟩)
      (fun h => ⟨brI ⟨rfl, rfl, rfl, rfl⟩ (by simp only [pt_rd7, den, Tree.get, g.rowB, hv, hsd, show mok p.T p.S p.K s 4 a.sl os = false from h, Bool.and_self, cond_true, cond_false] <;> rfl), ⟨rfl, at_, lc, ls, rfl, h1, h2, rfl⟩⟩)
end
theorem r_lv {lk : Bool} {ls st e : Int} (g : p.good s.ws) (hv : isW ls = true) : Sim p rdF (At1 a) 8 [.i e, .i a.sl, .i ls, .i st, .b lk, .b false] s (locS p a s.ws (.lv lk ls st e 0 0)) := by
  cases lk
  · exact Sim.load (kd := 4) (o := a.sl) (brI rfl (by simp only [pt_rd8, den, Tree.get, g.rowB, Bool.not_false, cond_true, cond_false] <;> rfl)) ⟨rfl, rfl, rfl, rfl⟩
  · have q1 := bool_two (decide (st < 0))
    have q2 := bool_two (decide (st > 7))
    simp only [locS]
    rcases q1 with q1 | q1 <;> rcases q2 with q2 | q2 <;> simp only [q1, q2, Bool.or_true, Bool.true_or, Bool.or_self, cond_true, cond_false] <;>
      exact Sim.swap (fun h => ⟨brI rfl (by simp only [pt_rd8, den, Tree.get, g.rowB, hv, q1, q2, show mok p.T p.S p.K s 4 a.sl ls = true from h, Bool.not_true, cond_true, cond_false] <;> rfl), ⟨rfl, rfl, rfl, rfl⟩⟩)
        (fun h => ⟨brI rfl (by simp only [pt_rd8, den, Tree.get, g.rowB, hv, q1, q2, show mok p.T p.S p.K s 4 a.sl ls = false from h, Bool.not_true, cond_true, cond_false] <;> rfl), ⟨rfl, rfl, rfl, rfl⟩⟩)
end
end Go.Proofs.YtifojacfedjedaaGreat.Bound
end

section
namespace Go.Proofs.YtifojacfedjedaaGreat.Bound
open Go.Proofs.YtifojacfedjedaaGreat.Ev Go.Proofs.YtifojacfedjedaaGreat.ChartMath
set_option linter.unusedVariables false
set_option linter.unusedSimpArgs false
def cmF (k : Nat) (x : List Atom) : Tree (Nat × List Atom) := nthD (fun _ => .bad) cmOs k x
def abF (k : Nat) (x : List Atom) : Tree (Nat × List Atom) := nthD (fun _ => .bad) abOs k x
/-- Where a Commit stands. -/
def At3 (a : Ar) : Loc → Nat → List Atom → Prop
  | .en tk es, k, X => k = 0 ∧ ∃ ec ew, X = [.i a.sl, .i a.sl, .i es, .i a.eh, .n 1, .n ec, .b tk, .b false, .i 0, .i ew, .ws [2]]
  | .judge, k, X => k = 1 ∧ X = [.i a.sl]
  | .doom s, k, X => k = 2 ∧ X = [.i a.sl, .i s]
  | .promise s, k, X => k = 3 ∧ X = [.i a.sl, .i s]
  | .count, k, X => k = 4 ∧ X = [.i a.sl]
  | .help j hw hs, k, X => k = 5 + j ∧ X = [.i a.sl, .i hw, .i hs, .i (hw / 16), .i (hw % 16 - 1)]
  | .number w, k, X => k = 9 ∧ X = [.i a.sl, .i w]
  | .note j w hw hs, k, X => k = 10 + j ∧ X = [.i a.sl, .i w, .i hw, .i hs, .i (hw / 16), .i (hw % 16 - 1)]
  | .lv lk ls st e h n, k, X => k = 14 ∧ X = [.i e, .i h, .i n, .i a.sl, .i ls, .i st, .b lk, .b false]
  | .done e h n, k, X => k = 15 ∧ X = [.i e, .i h, .i n]
  | _, _, _ => False
/-- Where an Abort stands. -/
def At4 (a : Ar) : Loc → Nat → List Atom → Prop
  | .en tk es, k, X => k = 0 ∧ ∃ ec ew, X = [.i a.sl, .i a.sl, .i es, .i a.eh, .n 1, .n ec, .b tk, .b false, .i 0, .i ew, .ws [2]]
  | .abt, k, X => k = 1 ∧ X = [.i a.sl]
  | .lv lk ls st e h n, k, X => k = 2 ∧ X = [.i e, .i h, .i n, .i a.sl, .i ls, .i st, .b lk, .b false]
  | .done e h n, k, X => k = 3 ∧ X = [.i e, .i h, .i n]
  | _, _, _ => False
section
variable {p : Pm} {a : Ar} {k : Nat} {X : List Atom} {s : MS}
theorem e0_ : [(2 : Int)].getD (0 + Int.toNat 0 * 1) 0 = 2 := rfl
theorem c_en {tk : Bool} {es : Int} (g : p.good s.ws) (ha : Ar.Ok p a) (hM : a.M = 3) (hv : isW es = true) {ec : Nat} {ew : Int} : Sim p cmF (At3 a) 0 [.i a.sl, .i a.sl, .i es, .i a.eh, .n 1, .n ec, .b tk, .b false, .i 0, .i ew, .ws [2]] s (locS p a s.ws (.en tk es)) := by
  cases tk
  · have hW := g.isW 4 a.sl
    have q1 := bool_two (gnI (p.at s.ws 4 a.sl) != genI a.eh)
    have q2 := bool_two (stI (p.at s.ws 4 a.sl) == 0)
    have q3 := bool_two (stI (p.at s.ws 4 a.sl) == 1)
    have q4 := bool_two (bitI (p.at s.ws 4 a.sl) 26)
    have q5 := bool_two (stI (p.at s.ws 4 a.sl) == 2)
    rcases q1 with q1 | q1 <;> rcases q2 with q2 | q2 <;> rcases q3 with q3 | q3 <;> rcases q4 with q4 | q4 <;> rcases q5 with q5 | q5 <;>
      simp only [locS, q1, q2, q3, q4, q5, cond_true, cond_false] <;>
      refine Sim.load (kd := 4) (o := a.sl) (brI ⟨rfl, rfl, rfl, rfl, rfl⟩ (by simp only [pt_cm0, den, Tree.get, ha.eh, ha.named, g.rowB, mat_lat, hW, q1, q2, q3, q4, q5, e0_, Bool.not_true, Bool.not_false, cond_true, cond_false] <;> rfl)) ?_ <;>
      first | exact ⟨rfl, rfl⟩ | exact ⟨rfl, _, _, rfl⟩
  · refine Sim.swap (fun h => ⟨brI ⟨rfl, rfl, rfl, rfl, rfl⟩ (by simp only [pt_cm0, den, Tree.get, ha.eh, ha.named, g.rowB, hv, show mok p.T p.S p.K s 4 a.sl es = true from h, Bool.not_true, Bool.not_false, cond_true, cond_false] <;> rfl), ?_⟩) (fun h => ⟨brI ⟨rfl, rfl, rfl, rfl, rfl⟩ (by simp only [pt_cm0, den, Tree.get, ha.eh, ha.named, g.rowB, hv, show mok p.T p.S p.K s 4 a.sl es = false from h, Bool.not_true, Bool.not_false, cond_true, cond_false] <;> rfl), ?_⟩)
    · unfold fstL
      rw [hM, if_pos rfl]
      exact ⟨rfl, rfl⟩
    · exact ⟨rfl, _, _, rfl⟩
theorem a_en {tk : Bool} {es : Int} (g : p.good s.ws) (ha : Ar.Ok p a) (hM : a.M = 4) (hv : isW es = true) {ec : Nat} {ew : Int} : Sim p abF (At4 a) 0 [.i a.sl, .i a.sl, .i es, .i a.eh, .n 1, .n ec, .b tk, .b false, .i 0, .i ew, .ws [2]] s (locS p a s.ws (.en tk es)) := by
  cases tk
  · have hW := g.isW 4 a.sl
    have q1 := bool_two (gnI (p.at s.ws 4 a.sl) != genI a.eh)
    have q2 := bool_two (stI (p.at s.ws 4 a.sl) == 0)
    have q3 := bool_two (stI (p.at s.ws 4 a.sl) == 1)
    have q4 := bool_two (bitI (p.at s.ws 4 a.sl) 26)
    have q5 := bool_two (stI (p.at s.ws 4 a.sl) == 2)
    rcases q1 with q1 | q1 <;> rcases q2 with q2 | q2 <;> rcases q3 with q3 | q3 <;> rcases q4 with q4 | q4 <;> rcases q5 with q5 | q5 <;>
      simp only [locS, q1, q2, q3, q4, q5, cond_true, cond_false] <;>
      refine Sim.load (kd := 4) (o := a.sl) (brI ⟨rfl, rfl, rfl, rfl, rfl⟩ (by simp only [pt_ab0, den, Tree.get, ha.eh, ha.named, g.rowB, mat_lat, hW, q1, q2, q3, q4, q5, e0_, Bool.not_true, Bool.not_false, cond_true, cond_false] <;> rfl)) ?_ <;>
      first | exact ⟨rfl, rfl⟩ | exact ⟨rfl, _, _, rfl⟩
  · refine Sim.swap (fun h => ⟨brI ⟨rfl, rfl, rfl, rfl, rfl⟩ (by simp only [pt_ab0, den, Tree.get, ha.eh, ha.named, g.rowB, hv, show mok p.T p.S p.K s 4 a.sl es = true from h, Bool.not_true, Bool.not_false, cond_true, cond_false] <;> rfl), ?_⟩) (fun h => ⟨brI ⟨rfl, rfl, rfl, rfl, rfl⟩ (by simp only [pt_ab0, den, Tree.get, ha.eh, ha.named, g.rowB, hv, show mok p.T p.S p.K s 4 a.sl es = false from h, Bool.not_true, Bool.not_false, cond_true, cond_false] <;> rfl), ?_⟩)
    · unfold fstL
      rw [hM, if_neg (by decide), if_pos rfl]
      exact ⟨rfl, rfl⟩
    · exact ⟨rfl, _, _, rfl⟩
theorem c_judge (g : p.good s.ws) : Sim p cmF (At3 a) 1 [.i a.sl] s (locS p a s.ws .judge) := by
  have hW := g.isW 4 a.sl
  have d0 : decide ((0 : Int) = 0 ∨ (0 : Int) = 1) = true := rfl
  have d1 : decide ((1 : Int) = 0 ∨ (1 : Int) = 1) = true := rfl
  simp only [locS]
  rcases bool_two (anyB (p.at s.ws 4 a.sl) 0) with q1 | q1 <;> rcases bool_two (anyB (p.at s.ws 4 a.sl) 1) with q2 | q2 <;> simp only [q1, q2, Bool.and_self, Bool.and_false, Bool.and_true, Bool.false_and, cond_true, cond_false] <;>
    exact Sim.load (kd := 4) (o := a.sl) (by show (den (pt_cm1 _ _ _ _ _ _ _ _ _)).get = _; simp only [pt_cm1, den, Tree.get, g.rowB, mat_lat, hW, d0, d1, q1, q2, Bool.and_self, cond_true, cond_false] <;> rfl) ⟨rfl, rfl⟩
theorem c_doom {w : Int} (g : p.good s.ws) (hv : isW w = true) : Sim p cmF (At3 a) 2 [.i a.sl, .i w] s (locS p a s.ws (.doom w)) :=
  Sim.swap (fun h => ⟨by show (den (pt_cm2 _ _ _ _ _ _ _ _ _ _)).get = _; simp only [pt_cm2, den, Tree.get, g.rowB, hv, show mok p.T p.S p.K s 4 a.sl w = true from h, cond_true, cond_false] <;> rfl, rfl, rfl⟩)
    (fun h => ⟨by show (den (pt_cm2 _ _ _ _ _ _ _ _ _ _)).get = _; simp only [pt_cm2, den, Tree.get, g.rowB, hv, show mok p.T p.S p.K s 4 a.sl w = false from h, cond_true, cond_false] <;> rfl, rfl, rfl⟩)
theorem c_promise {w : Int} (g : p.good s.ws) (hv : isW w = true) : Sim p cmF (At3 a) 3 [.i a.sl, .i w] s (locS p a s.ws (.promise w)) :=
  Sim.swap (fun h => ⟨by show (den (pt_cm3 _ _ _ _ _ _ _ _ _ _)).get = _; simp only [pt_cm3, den, Tree.get, g.rowB, hv, show mok p.T p.S p.K s 4 a.sl w = true from h, cond_true, cond_false] <;> rfl, rfl, rfl⟩)
    (fun h => ⟨by show (den (pt_cm3 _ _ _ _ _ _ _ _ _ _)).get = _; simp only [pt_cm3, den, Tree.get, g.rowB, hv, show mok p.T p.S p.K s 4 a.sl w = false from h, cond_true, cond_false] <;> rfl, rfl, rfl⟩)
theorem d_sl (ha : Ar.Ok p a) (g : p.good s.ws) : decide (0 ≤ a.sl ∧ a.sl ≤ 11) = true := decide_eq_true (by have := ha.s0; have := ha.s1; have := g.cfg; omega)
theorem c_count (g : p.good s.ws) (ha : Ar.Ok p a) : Sim p cmF (At3 a) 4 [.i a.sl] s (locS p a s.ws .count) := by
  have hW := g.isW 1 0
  have hd := d_sl ha g
  simp only [locS]
  have q1 := bool_two (decide (p.at s.ws 1 0 % 16 - 1 ≥ 0))
  have q2 := bool_two (decide (p.at s.ws 1 0 / 16 ≥ p.Q))
  have q3 := bool_two (nextB (p.at s.ws 1 0))
  rcases q1 with q1 | q1 <;> rcases q2 with q2 | q2 <;> rcases q3 with q3 | q3
  all_goals have q1m : decide (mat p.T p.S p.K s 1 0 % 16 - 1 ≥ 0) = _ := q1
  all_goals have q2m : decide (mat p.T p.S p.K s 1 0 / 16 ≥ p.Q) = _ := q2
  all_goals have q3m : nextB (mat p.T p.S p.K s 1 0) = _ := q3
  all_goals have hWm : isW (mat p.T p.S p.K s 1 0) = true := hW
  all_goals simp only [q1, q2, q3, cond_true, cond_false]
  all_goals exact Sim.load (kd := 1) (o := 0) (by show (den (pt_cm4 _ _ _ _ _ _ _ _ _)).get = _; simp only [pt_cm4, den, Tree.get, g.rowB, hWm, hd, q1m, q2m, q3m, Bool.and_self, Bool.not_true, Bool.not_false, cond_true, cond_false] <;> rfl) ⟨rfl, rfl⟩
theorem c_help {j : Nat} {hw hs : Int} (g : p.good s.ws) (hj : j ≤ 3) (h1 : isW hw = true) (h2 : isW hs = true) : Sim p cmF (At3 a) (5 + j) [.i a.sl, .i hw, .i hs, .i (hw / 16), .i (hw % 16 - 1)] s (locS p a s.ws (.help j hw hs)) := by
  match j, hj with
  | 0, _ => exact Sim.swap (fun h => ⟨by show (den (pt_cm5 _ _ _ _ _ _ _ _ _ _ _ _ _)).get = _; simp only [pt_cm5, den, Tree.get, g.rowB, cond_true, cond_false] <;> rfl, rfl, rfl⟩) (fun h => ⟨by show (den (pt_cm5 _ _ _ _ _ _ _ _ _ _ _ _ _)).get = _; simp only [pt_cm5, den, Tree.get, g.rowB, cond_true, cond_false] <;> rfl, rfl, rfl⟩)
  | 1, _ =>
    have hW := g.isW 4 (hw % 16 - 1)
    simp only [locS, helpL]
    rcases bool_two (stI (p.at s.ws 4 (hw % 16 - 1)) == 3) with q | q <;> simp only [q, cond_true, cond_false] <;>
      exact Sim.load (kd := 4) (o := hw % 16 - 1) (by show (den (pt_cm6 a.sl hw hs (hw / 16) (hw % 16 - 1) p.T p.S p.K p.G p.Q p.l p.c s)).get = _; simp only [pt_cm6, den, Tree.get, g.rowB, mat_lat, hW, q, cond_true, cond_false] <;> rfl) ⟨rfl, rfl⟩
  | 2, _ =>
    exact Sim.swap (fun h => ⟨by show (den (pt_cm7 _ _ _ _ _ _ _ _ _ _ _ _ _)).get = _; simp only [pt_cm7, den, Tree.get, g.rowB, h2, show mok p.T p.S p.K s 4 (hw % 16 - 1) hs = true from h, cond_true, cond_false] <;> rfl, rfl, rfl⟩) (fun h => ⟨by show (den (pt_cm7 _ _ _ _ _ _ _ _ _ _ _ _ _)).get = _; simp only [pt_cm7, den, Tree.get, g.rowB, h2, show mok p.T p.S p.K s 4 (hw % 16 - 1) hs = false from h, cond_true, cond_false] <;> rfl, rfl, rfl⟩)
  | 3, _ =>
    exact Sim.swap (fun h => ⟨by show (den (pt_cm8 a.sl hw hs (hw / 16) (hw % 16 - 1) p.T p.S p.K p.G p.Q p.l p.c s)).get = _; simp only [pt_cm8, den, Tree.get, g.rowB, h1, cond_true, cond_false] <;> rfl, rfl, rfl⟩) (fun h => ⟨by show (den (pt_cm8 a.sl hw hs (hw / 16) (hw % 16 - 1) p.T p.S p.K p.G p.Q p.l p.c s)).get = _; simp only [pt_cm8, den, Tree.get, g.rowB, h1, cond_true, cond_false] <;> rfl, rfl, rfl⟩)
theorem next_w {w : Int} (h : isW w = true) (hn : nextB w = true) (s0 : 0 ≤ a.sl) (s1 : a.sl ≤ 11) : isW (nextI w a.sl) = true ∧ nextI w a.sl % 16 - 1 = a.sl := by
  have := isW_iff.1 h
  simp only [nextB, decide_eq_true_eq] at hn
  unfold nextI
  exact ⟨isW_iff.2 (by omega), by omega⟩
theorem c_number {w : Int} (g : p.good s.ws) (ha : Ar.Ok p a) (hv : isW w = true) (hn : nextB w = true) : Sim p cmF (At3 a) 9 [.i a.sl, .i w] s (locS p a s.ws (.number w)) := by
  have hd := d_sl ha g
  have hd' := of_decide_eq_true hd
  obtain ⟨n1, n2⟩ := next_w hv hn hd'.1 hd'.2
  have n3 : decide (nextI w a.sl % 16 - 1 ≥ 0) = true := decide_eq_true (by rw [n2]; exact hd'.1)
  have e : locS p a s.ws (.number w) = p.swap s.ws 1 0 w (nextI w a.sl) (.note 0 w (nextI w a.sl) 0) .count := by
    simp only [locS, hn, if_true]
  rw [e]
  exact Sim.swap (fun h => ⟨by show (den (pt_cm9 _ _ _ _ _ _ _ _ _ _)).get = _; simp only [pt_cm9, den, Tree.get, g.rowB, hv, hn, hd, n1, n3, show mok p.T p.S p.K s 1 0 w = true from h, if_true, Bool.and_self, cond_true, cond_false] <;> rfl, rfl, rfl⟩)
    (fun h => ⟨by show (den (pt_cm9 _ _ _ _ _ _ _ _ _ _)).get = _; simp only [pt_cm9, den, Tree.get, g.rowB, hv, hn, hd, show mok p.T p.S p.K s 1 0 w = false from h, if_true, Bool.and_self, cond_true, cond_false] <;> rfl, rfl, rfl⟩)
theorem c_note {j : Nat} {w hw hs : Int} (g : p.good s.ws) (hj : j ≤ 3) (h0 : isW w = true) (h1 : isW hw = true) (h2 : isW hs = true) : Sim p cmF (At3 a) (10 + j) [.i a.sl, .i w, .i hw, .i hs, .i (hw / 16), .i (hw % 16 - 1)] s (locS p a s.ws (.note j w hw hs)) := by
  match j, hj with
  | 0, _ => exact Sim.swap (fun h => ⟨by show (den (pt_cm10 _ _ _ _ _ _ _ _ _ _ _ _ _ _)).get = _; simp only [pt_cm10, den, Tree.get, g.rowB, cond_true, cond_false] <;> rfl, rfl, rfl⟩) (fun h => ⟨by show (den (pt_cm10 _ _ _ _ _ _ _ _ _ _ _ _ _ _)).get = _; simp only [pt_cm10, den, Tree.get, g.rowB, cond_true, cond_false] <;> rfl, rfl, rfl⟩)
  | 1, _ =>
    have hW := g.isW 4 (hw % 16 - 1)
    simp only [locS, helpL]
    rcases bool_two (stI (p.at s.ws 4 (hw % 16 - 1)) == 3) with q | q <;> simp only [q, cond_true, cond_false] <;>
      exact Sim.load (kd := 4) (o := hw % 16 - 1) (by show (den (pt_cm11 a.sl w hw hs (hw / 16) (hw % 16 - 1) p.T p.S p.K p.G p.Q p.l p.c s)).get = _; simp only [pt_cm11, den, Tree.get, g.rowB, mat_lat, hW, q, cond_true, cond_false] <;> rfl) ⟨rfl, rfl⟩
  | 2, _ =>
    exact Sim.swap (fun h => ⟨by show (den (pt_cm12 _ _ _ _ _ _ _ _ _ _ _ _ _ _)).get = _; simp only [pt_cm12, den, Tree.get, g.rowB, h2, show mok p.T p.S p.K s 4 (hw % 16 - 1) hs = true from h, cond_true, cond_false] <;> rfl, rfl, rfl⟩) (fun h => ⟨by show (den (pt_cm12 _ _ _ _ _ _ _ _ _ _ _ _ _ _)).get = _; simp only [pt_cm12, den, Tree.get, g.rowB, h2, show mok p.T p.S p.K s 4 (hw % 16 - 1) hs = false from h, cond_true, cond_false] <;> rfl, rfl, rfl⟩)
  | 3, _ =>
    have hw1 := isW_iff.1 h0
    have e : IntKind.u64.wrap (w / 16 + 1) = w / 16 + 1 := wrap_id (by omega) (by omega)
    exact Sim.swap (fun h => ⟨by show (den (pt_cm13 a.sl w hw hs (hw / 16) (hw % 16 - 1) p.T p.S p.K p.G p.Q p.l p.c s)).get = _; simp only [pt_cm13, den, Tree.get, g.rowB, h0, h1, e, cond_true, cond_false] <;> rfl, rfl, rfl⟩) (fun h => ⟨by show (den (pt_cm13 a.sl w hw hs (hw / 16) (hw % 16 - 1) p.T p.S p.K p.G p.Q p.l p.c s)).get = _; simp only [pt_cm13, den, Tree.get, g.rowB, h0, h1, e, cond_true, cond_false] <;> rfl, rfl, rfl⟩)
theorem c_lv {lk : Bool} {ls st e hh n : Int} (g : p.good s.ws) (hv : isW ls = true) : Sim p cmF (At3 a) 14 [.i e, .i hh, .i n, .i a.sl, .i ls, .i st, .b lk, .b false] s (locS p a s.ws (.lv lk ls st e hh n)) := by
  cases lk
  · exact Sim.load (kd := 4) (o := a.sl) (brI rfl (by simp only [pt_cm14, den, Tree.get, g.rowB, Bool.not_false, cond_true, cond_false] <;> rfl)) ⟨rfl, rfl⟩
  · have q1 := bool_two (decide (st < 0))
    have q2 := bool_two (decide (st > 7))
    simp only [locS]
    rcases q1 with q1 | q1 <;> rcases q2 with q2 | q2 <;> simp only [q1, q2, Bool.or_true, Bool.true_or, Bool.or_self, cond_true, cond_false] <;>
      exact Sim.swap (fun h => ⟨brI rfl (by simp only [pt_cm14, den, Tree.get, g.rowB, hv, q1, q2, show mok p.T p.S p.K s 4 a.sl ls = true from h, Bool.not_true, cond_true, cond_false] <;> rfl), ⟨rfl, rfl⟩⟩)
        (fun h => ⟨brI rfl (by simp only [pt_cm14, den, Tree.get, g.rowB, hv, q1, q2, show mok p.T p.S p.K s 4 a.sl ls = false from h, Bool.not_true, cond_true, cond_false] <;> rfl), ⟨rfl, rfl⟩⟩)
theorem a_then (g : p.good s.ws) : Sim p abF (At4 a) 1 [.i a.sl] s (locS p a s.ws .abt) :=
  Sim.load (kd := 4) (o := a.sl) (by show (den (pt_ab1 _ _ _ _ _ _ _ _ _)).get = _; simp only [pt_ab1, den, Tree.get, g.rowB, cond_true] <;> rfl) ⟨rfl, rfl⟩
theorem a_lv {lk : Bool} {ls st e hh n : Int} (g : p.good s.ws) (hv : isW ls = true) : Sim p abF (At4 a) 2 [.i e, .i hh, .i n, .i a.sl, .i ls, .i st, .b lk, .b false] s (locS p a s.ws (.lv lk ls st e hh n)) := by
  cases lk
  · exact Sim.load (kd := 4) (o := a.sl) (brI rfl (by simp only [pt_ab2, den, Tree.get, g.rowB, Bool.not_false, cond_true, cond_false] <;> rfl)) ⟨rfl, rfl⟩
  · have q1 := bool_two (decide (st < 0))
    have q2 := bool_two (decide (st > 7))
    simp only [locS]
    rcases q1 with q1 | q1 <;> rcases q2 with q2 | q2 <;> simp only [q1, q2, Bool.or_true, Bool.true_or, Bool.or_self, cond_true, cond_false] <;>
      exact Sim.swap (fun h => ⟨brI rfl (by simp only [pt_ab2, den, Tree.get, g.rowB, hv, q1, q2, show mok p.T p.S p.K s 4 a.sl ls = true from h, Bool.not_true, cond_true, cond_false] <;> rfl), ⟨rfl, rfl⟩⟩)
        (fun h => ⟨brI rfl (by simp only [pt_ab2, den, Tree.get, g.rowB, hv, q1, q2, show mok p.T p.S p.K s 4 a.sl ls = false from h, Bool.not_true, cond_true, cond_false] <;> rfl), ⟨rfl, rfl⟩⟩)
/-- A Commit goes on as is said. -/
theorem sim3 {x : Loc} (g : p.good s.ws) (ha : Ar.Ok p a) (hM : a.M = 3) (hv : VL p a x) (hat : At3 a x k X) (hd : k ≠ 15) : Sim p cmF (At3 a) k X s (locS p a s.ws x) := by
  cases x with
  | en tk es => obtain ⟨rfl, ec, ew, rfl⟩ := hat; exact c_en g ha hM hv
  | judge => obtain ⟨rfl, rfl⟩ := hat; exact c_judge g
  | doom w => obtain ⟨rfl, rfl⟩ := hat; exact c_doom g hv
  | promise w => obtain ⟨rfl, rfl⟩ := hat; exact c_promise g hv
  | count => obtain ⟨rfl, rfl⟩ := hat; exact c_count g ha
  | help j hw hs => obtain ⟨rfl, rfl⟩ := hat; exact c_help g hv.1 hv.2.1 hv.2.2
  | number w => obtain ⟨rfl, rfl⟩ := hat; exact c_number g ha hv.1 hv.2
  | note j w hw hs => obtain ⟨rfl, rfl⟩ := hat; exact c_note g hv.1 hv.2.1 hv.2.2.1 hv.2.2.2
  | lv lk ls st e h n => obtain ⟨rfl, rfl⟩ := hat; exact c_lv g hv
  | done e h n => exact absurd hat.1 hd
  | _ => exact hat.elim
/-- An Abort goes on as is said. -/
theorem sim4 {x : Loc} (g : p.good s.ws) (ha : Ar.Ok p a) (hM : a.M = 4) (hv : VL p a x) (hat : At4 a x k X) (hd : k ≠ 3) : Sim p abF (At4 a) k X s (locS p a s.ws x) := by
  cases x with
  | en tk es => obtain ⟨rfl, ec, ew, rfl⟩ := hat; exact a_en g ha hM hv
  | abt => obtain ⟨rfl, rfl⟩ := hat; exact a_then g
  | lv lk ls st e h n => obtain ⟨rfl, rfl⟩ := hat; exact a_lv g hv
  | done e h n => exact absurd hat.1 hd
  | _ => exact hat.elim
/-- A Read goes on as is said. -/
theorem sim1 {x : Loc} (g : p.good s.ws) (ha : Ar.Ok p a) (hM : a.M = 1) (hk : a.kd = 0) (hv : VL p a x) (hat : At1 a x k X) (hd : k ≠ 9) : Sim p rdF (At1 a) k X s (locS p a s.ws x) := by
  cases x with
  | en tk es => obtain ⟨rfl, ec, ew, rfl⟩ := hat; exact r_en g ha hM hv
  | snap => obtain ⟨rfl, rfl⟩ := hat; exact r_snap g
  | look n => obtain ⟨rfl, rfl⟩ := hat; exact r_look g ha hk
  | mark n w => obtain ⟨rfl, rfl⟩ := hat; exact r_mark g ha hk hv
  | join j n js l =>
    obtain ⟨rfl, at_, lc, ls, rfl, h1, h2, rfl⟩ := hat
    obtain ⟨v0, v1, v2, v3, v4⟩ := hv
    match j, v0 with
    | 0, _ => exact r_join0 g ha hk h1 h2 v3
    | 1, _ => exact r_join1 g ha hk h1 h2 v3 v1
    | 2, _ => exact r_join2 g ha hk h1 h2 v3 v1
  | own lk n os l =>
    obtain ⟨rfl, at_, lc, ls, rfl, h1, h2, rfl⟩ := hat
    obtain ⟨v1, v2, v3, v4⟩ := hv
    cases lk
    · exact r_ownF g ha hk h1 h2 v3
    · exact r_ownT g ha hk h1 h2 v3 v1
  | lv lk ls st e h n => obtain ⟨rfl, rfl, rfl, rfl⟩ := hat; exact r_lv g hv
  | done e h n => exact absurd hat.1 hd
  | _ => exact hat.elim
end
end Go.Proofs.YtifojacfedjedaaGreat.Bound
end

section
namespace Go.Proofs.YtifojacfedjedaaGreat.Bound
open Go.Proofs.YtifojacfedjedaaGreat.Ev Go.Proofs.YtifojacfedjedaaGreat.ChartMath
set_option linter.unusedVariables false
set_option linter.unusedSimpArgs false
def opF (k : Nat) (x : List Atom) : Tree (Nat × List Atom) := nthD (fun _ => .bad) opOs k x
/-- Where an Open stands. -/
def At0 : Loc → Nat → List Atom → Prop
  | .olook sl, k, X => k = 0 ∧ X = [.i sl, .i 0, .i 0, .i 0, .i sl]
  | .otake sl w, k, X => k = 1 ∧ X = [.i sl, .i w, .i 0, .i 0, .i 0, .i sl]
  | .otally sl w, k, X => k = 2 ∧ X = [.i sl, .i w, .i 0, .i 0, .i 0]
  | .ohelp j sl w hw hs, k, X => k = 3 + j ∧ X = [.i sl, .i w, .i 0, .i 0, .i 0, .i hw, .i hs, .i (hw / 16), .i (hw % 16 - 1)]
  | .onote sl w q, k, X => k = 7 ∧ X = [.i sl, .i w, .i q, .i 0, .i 0, .i 0]
  | .ostart sl w q, k, X => k = 8 ∧ X = [.i sl, .i w, .i q, .i 0, .i 0, .i 0]
  | .done e h n, k, X => k = 9 ∧ X = [.i e, .i h, .i n]
  | _, _, _ => False
section
variable {p : Pm} {a : Ar} {k : Nat} {X : List Atom} {s : MS}
theorem g_rng {w : Int} : 0 ≤ gnI w := by unfold gnI; omega
theorem o1_look {sl : Int} (g : p.good s.ws) (h0 : 0 ≤ sl) (h1 : sl < p.S) : Sim p opF At0 0 [.i sl, .i 0, .i 0, .i 0, .i sl] s (locS p a s.ws (.olook sl)) := by
  have hc := g.cfg
  have hW : isW (mat p.T p.S p.K s 4 sl) = true := g.isW 4 sl
  have w1 : IntKind.i64.wrap (sl + 1) = sl + 1 := wr_s (by omega) (by omega)
  simp only [locS]
  by_cases hm : sl + 1 ≥ p.S
  · have d1 : decide (sl + 1 ≥ p.S) = true := decide_eq_true hm
    rw [show ogoes p sl = .done 6 0 0 from if_pos hm]
    rcases bool_two (stI (p.at s.ws 4 sl) != 0) with q1 | q1 <;> rcases bool_two (decide (gnI (p.at s.ws 4 sl) > p.G)) with q2 | q2
    all_goals have q1m : (stI (mat p.T p.S p.K s 4 sl) != 0) = _ := q1
    all_goals have q2m : decide (gnI (mat p.T p.S p.K s 4 sl) > p.G) = _ := q2
    all_goals simp only [q1, q2, cond_true, cond_false]
    all_goals exact Sim.load (kd := 4) (o := sl) (brI ⟨rfl, rfl, rfl, rfl⟩ (by simp only [pt_op0, den, Tree.get, g.rowB, hW, q1m, q2m, w1, d1, cond_true, cond_false] <;> rfl)) ⟨rfl, rfl⟩
  · have d1 : decide (sl + 1 ≥ p.S) = false := decide_eq_false hm
    rw [show ogoes p sl = .olook (sl + 1) from if_neg hm]
    rcases bool_two (stI (p.at s.ws 4 sl) != 0) with q1 | q1 <;> rcases bool_two (decide (gnI (p.at s.ws 4 sl) > p.G)) with q2 | q2
    all_goals have q1m : (stI (mat p.T p.S p.K s 4 sl) != 0) = _ := q1
    all_goals have q2m : decide (gnI (mat p.T p.S p.K s 4 sl) > p.G) = _ := q2
    all_goals simp only [q1, q2, cond_true, cond_false]
    all_goals exact Sim.load (kd := 4) (o := sl) (brI ⟨rfl, rfl, rfl, rfl⟩ (by simp only [pt_op0, den, Tree.get, g.rowB, hW, q1m, q2m, w1, d1, cond_true, cond_false] <;> rfl)) ⟨rfl, rfl⟩
theorem o1_take {sl w : Int} (g : p.good s.ws) (h0 : 0 ≤ sl) (h1 : sl < p.S) (hv : isW w = true) : Sim p opF At0 1 [.i sl, .i w, .i 0, .i 0, .i 0, .i sl] s (locS p a s.ws (.otake sl w)) := by
  have hc := g.cfg
  have w1 : IntKind.i64.wrap (sl + 1) = sl + 1 := wr_s (by omega) (by omega)
  by_cases hm : sl + 1 ≥ p.S
  · have d1 : decide (sl + 1 ≥ p.S) = true := decide_eq_true hm
    simp only [locS]
    rw [show ogoes p sl = .done 6 0 0 from if_pos hm]
    exact Sim.swap (fun h => ⟨brI ⟨rfl, rfl, rfl, rfl⟩ (by simp only [pt_op1, den, Tree.get, g.rowB, hv, w1, d1, show mok p.T p.S p.K s 4 sl w = true from h, Bool.not_true, cond_true, cond_false] <;> rfl), rfl, rfl⟩) (fun h => ⟨brI ⟨rfl, rfl, rfl, rfl⟩ (by simp only [pt_op1, den, Tree.get, g.rowB, hv, w1, d1, show mok p.T p.S p.K s 4 sl w = false from h, Bool.not_false, cond_true, cond_false] <;> rfl), rfl, rfl⟩)
  · have d1 : decide (sl + 1 ≥ p.S) = false := decide_eq_false hm
    simp only [locS]
    rw [show ogoes p sl = .olook (sl + 1) from if_neg hm]
    exact Sim.swap (fun h => ⟨brI ⟨rfl, rfl, rfl, rfl⟩ (by simp only [pt_op1, den, Tree.get, g.rowB, hv, w1, d1, show mok p.T p.S p.K s 4 sl w = true from h, Bool.not_true, cond_true, cond_false] <;> rfl), rfl, rfl⟩) (fun h => ⟨brI ⟨rfl, rfl, rfl, rfl⟩ (by simp only [pt_op1, den, Tree.get, g.rowB, hv, w1, d1, show mok p.T p.S p.K s 4 sl w = false from h, Bool.not_false, cond_true, cond_false] <;> rfl), rfl, rfl⟩)
theorem o1_tally {sl w : Int} (g : p.good s.ws) : Sim p opF At0 2 [.i sl, .i w, .i 0, .i 0, .i 0] s (locS p a s.ws (.otally sl w)) := by
  have hW : isW (mat p.T p.S p.K s 1 0) = true := g.isW 1 0
  simp only [locS]
  rcases bool_two (decide (p.at s.ws 1 0 % 16 - 1 ≥ 0)) with q1 | q1
  all_goals have q1m : decide (mat p.T p.S p.K s 1 0 % 16 - 1 ≥ 0) = _ := q1
  all_goals simp only [q1, cond_true, cond_false]
  all_goals exact Sim.load (kd := 1) (o := 0) (brI ⟨rfl, rfl, rfl⟩ (by simp only [pt_op2, den, Tree.get, g.rowB, hW, q1m, cond_true, cond_false] <;> rfl)) ⟨rfl, rfl⟩
theorem o1_help {j : Nat} {sl w hw hs : Int} (g : p.good s.ws) (hj : j ≤ 3) (h1 : isW hw = true) (h2 : isW hs = true) : Sim p opF At0 (3 + j) [.i sl, .i w, .i 0, .i 0, .i 0, .i hw, .i hs, .i (hw / 16), .i (hw % 16 - 1)] s (locS p a s.ws (.ohelp j sl w hw hs)) := by
  match j, hj with
  | 0, _ => exact Sim.swap (fun h => ⟨brI ⟨rfl, rfl, rfl⟩ (by simp only [pt_op3, den, Tree.get, g.rowB, cond_true, cond_false] <;> rfl), rfl, rfl⟩) (fun h => ⟨brI ⟨rfl, rfl, rfl⟩ (by simp only [pt_op3, den, Tree.get, g.rowB, cond_true, cond_false] <;> rfl), rfl, rfl⟩)
  | 1, _ =>
    have hW := g.isW 4 (hw % 16 - 1)
    simp only [locS, helpL]
    rcases bool_two (stI (p.at s.ws 4 (hw % 16 - 1)) == 3) with q | q <;> simp only [q, cond_true, cond_false] <;>
      exact Sim.load (kd := 4) (o := hw % 16 - 1) (brI ⟨rfl, rfl, rfl⟩ (by simp only [pt_op4, den, Tree.get, g.rowB, mat_lat, hW, q, cond_true, cond_false] <;> rfl)) ⟨rfl, rfl⟩
  | 2, _ =>
    exact Sim.swap (fun h => ⟨brI ⟨rfl, rfl, rfl⟩ (by simp only [pt_op5, den, Tree.get, g.rowB, h2, show mok p.T p.S p.K s 4 (hw % 16 - 1) hs = true from h, cond_true, cond_false] <;> rfl), rfl, rfl⟩) (fun h => ⟨brI ⟨rfl, rfl, rfl⟩ (by simp only [pt_op5, den, Tree.get, g.rowB, h2, show mok p.T p.S p.K s 4 (hw % 16 - 1) hs = false from h, cond_true, cond_false] <;> rfl), rfl, rfl⟩)
  | 3, _ =>
    exact Sim.swap (fun h => ⟨brI ⟨rfl, rfl, rfl⟩ (by simp only [pt_op6, den, Tree.get, g.rowB, h1, cond_true, cond_false] <;> rfl), rfl, rfl⟩) (fun h => ⟨brI ⟨rfl, rfl, rfl⟩ (by simp only [pt_op6, den, Tree.get, g.rowB, h1, cond_true, cond_false] <;> rfl), rfl, rfl⟩)
theorem o1_note {sl w q : Int} (g : p.good s.ws) : Sim p opF At0 7 [.i sl, .i w, .i q, .i 0, .i 0, .i 0] s (locS p a s.ws (.onote sl w q)) :=
  Sim.store (brI ⟨rfl, rfl, rfl⟩ (by simp only [pt_op7, den, Tree.get, g.rowB, cond_true] <;> rfl)) ⟨rfl, rfl⟩
theorem o1_start {sl w q : Int} (g : p.good s.ws) (h0 : 0 ≤ sl) (h1 : sl < p.S) (hv : isW w = true) (hg : gnI w ≤ p.G) : Sim p opF At0 8 [.i sl, .i w, .i q, .i 0, .i 0, .i 0] s (locS p a s.ws (.ostart sl w q)) := by
  have hc := g.cfg
  have hR := g.right
  simp only [right, decide_eq_true_eq] at hR
  have hd : decide (0 ≤ sl ∧ sl ≤ 11 ∧ 0 ≤ gnI w ∧ gnI w ≤ 1073741823) = true := decide_eq_true ⟨h0, by omega, g_rng, by omega⟩
  exact Sim.store (brI ⟨rfl, rfl, rfl⟩ (by simp only [pt_op8, den, Tree.get, g.rowB, hv, hd, cond_true] <;> rfl)) ⟨rfl, rfl⟩
/-- An Open goes on as is said. -/
theorem sim0 {x : Loc} (g : p.good s.ws) (hv : VL p a x) (hat : At0 x k X) (hd : k ≠ 9) : Sim p opF At0 k X s (locS p a s.ws x) := by
  cases x with
  | olook sl => obtain ⟨rfl, rfl⟩ := hat; exact o1_look g hv.1 hv.2
  | otake sl w => obtain ⟨rfl, rfl⟩ := hat; exact o1_take g hv.1 hv.2.1 hv.2.2.1
  | otally sl w => obtain ⟨rfl, rfl⟩ := hat; exact o1_tally g
  | ohelp j sl w hw hs => obtain ⟨rfl, rfl⟩ := hat; exact o1_help g hv.1 hv.2.2.2.2.2.1 hv.2.2.2.2.2.2
  | onote sl w q => obtain ⟨rfl, rfl⟩ := hat; exact o1_note g
  | ostart sl w q => obtain ⟨rfl, rfl⟩ := hat; exact o1_start g hv.1 hv.2.1 hv.2.2.1 hv.2.2.2.1
  | done e h n => exact absurd hat.1 hd
  | _ => exact hat.elim
end
end Go.Proofs.YtifojacfedjedaaGreat.Bound
end
