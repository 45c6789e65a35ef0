/- EV at this seat's program. No condition. EV: contracts of calls over plain values. No condition. EV: contracts of calls over plain values and slices that are read alone. Conditions stand in the statement. EV at this seat's program: sums of loops. Conditions stand in the statements. EV: a contract over plain values, used as a sum. Conditions stand in the statement. -/
import Derived.Test.YtifojacfedjedaaGreatEvBQ
import Derived.Test.YtifojacfedjedaaGreatChecked
import Derived.KernelRfl
import Derived.Below
section
namespace Go.Proofs.YtifojacfedjedaaGreat.Ev
set_option linter.unusedVariables false
noncomputable def fns (f : Nat) : Option Func := match Tryz.prog.funcs[f]? with
  | some fn => match fn.body with
    | some _ => some fn
    | none => none
  | none => none
theorem names : (Tryz.prog.funcs.all fun fn => !(fn.name == "runtime.NumGoroutine")) = true := by kernel_rfl
theorem mixed : Tryz.prog.follows .mixedOrders = true := by kernel_rfl
theorem fns_ok {f : Nat} {fn : Func} (h : fns f = some fn) : Tryz.prog.funcs[f]? = some fn ∧ Enters Tryz.prog f := by
  unfold fns at h
  cases hf : Tryz.prog.funcs[f]? with
  | none => simp [hf] at h
  | some g =>
    simp only [hf] at h
    cases hb : g.body with
    | none => simp [hb] at h
    | some c =>
      simp only [hb, Option.some.injEq] at h
      subst h
      refine ⟨rfl, fun args w => ?_⟩
      have hn : ¬ g.name = "runtime.NumGoroutine" := by
        have := Array.all_eq_true_iff_forall_mem.1 names g (Array.mem_of_getElem? hf)
        simpa using this
      simp [callFunc, hf, hn, hb]
/-- The sums that are used: each is sound, and its function is entered; so are those of loops. -/
structure SumsOk (sums : Sums) : Prop where
  call : ∀ f s, sums.call f = some s → SoundSum Tryz.prog f s ∧ Enters Tryz.prog f
  loop : ∀ f fn c n0, fns f = some fn → fn.body = some c → LoopsOk Tryz.prog (sums.loop f) n0 c
theorem env {sums : Sums} (h : SumsOk sums) : Env Tryz.prog fns sums := ⟨h.loop, mixed, fun f fn hf => fns_ok hf, h.call⟩
def noLoops : FuncId → Nat → Option LSum := fun _ _ => none
theorem noLoops_ok {P : Program} {f : FuncId} {c : Code} {n0 : Nat} : LoopsOk P (noLoops f) n0 c := fun d _ ls h => by
  unfold loopSum noLoops at h
  split at h <;> cases h
def noSums : Sums := ⟨fun _ => none, noLoops⟩
theorem noSums_ok : SumsOk noSums := ⟨fun f s h => (by cases h), fun f _ _ _ _ _ => noLoops_ok (f := f)⟩
/-- What is answered: the value, and what some numbers hold. -/
def outV : Tree (Value × TH × List Nat) → Option Value
  | .leaf r => some r.1
  | .bad => none
  | .br b t e => cond b (outV t) (outV e)
theorem outV_get {t : Tree (Value × TH × List Nat)} {v : Value} (h : outV t = some v) : ∃ H L, t.get = some (v, H, L) := by
  induction t with
  | leaf r => simp [outV] at h; subst h; exact ⟨_, _, rfl⟩
  | bad => simp [outV] at h
  | br b t e ih1 ih2 => cases b <;> simp [outV] at h <;> simp <;> first | exact ih1 h | exact ih2 h
/-- A call, by the evaluator. -/
noncomputable abbrev ev (sums : Sums) (n : Nat) : FuncId → Sum := evCall Tryz.prog fns sums n
theorem ev_sound {sums : Sums} (h : SumsOk sums) (n : Nat) (f : FuncId) : SoundSum Tryz.prog f (ev sums n f) := (evCall_ok (env h) n).sound f
end Go.Proofs.YtifojacfedjedaaGreat.Ev
end

section
namespace Go.Proofs.YtifojacfedjedaaGreat.Ev
open Go.RowKit
set_option linter.unusedVariables false
/-- What the evaluator answers to plain values, a call answers; no block is changed. -/
theorem calls_plain {sums : Sums} (hs : SumsOk sums) (n : Nat) (f : FuncId) (args : List Value) (v : Value) (ha : plainL args = true) (hv : plain v = true) (h : outV (ev sums n f args ⟨.nil, 0⟩) = some v) (W : World) :
    Calls Tryz.prog f ⟨args⟩ W fun e W' => e = .returned v ∧ Below W.heap.size W W' := by
  obtain ⟨H', L, hg⟩ := outV_get h
  have hr : Reps Tryz.prog (fun _ => False) ⟨fun _ => 0, fun _ => 0, fun _ => 0⟩ (TH.sem ⟨.nil, 0⟩) W := ⟨fun i b hb => (by cases hb), fun i j b b' hb => (by cases hb), fun i b hb => (by cases hb), fun i hi => hi.elim⟩
  have hc := (ev_sound hs n f).calls args ⟨.nil, 0⟩ v H' L hg (fun _ => False) ⟨fun _ => 0, fun _ => 0, fun _ => 0⟩ W hr (scL_plain _ _ ha)
  rw [concL_plain _ _ ha] at hc
  refine hc.mono ?_
  rintro e W' ⟨K', ρ', rfl, _, _, hf, _, _⟩
  refine ⟨by rw [conc_plain _ _ hv], ⟨hf.os, hf.tape, hf.output, hf.size, fun k hk => hf.off k hk (fun i _ hi => absurd (show (TH.sem ⟨.nil, 0⟩).get i = none from rfl) hi.get)⟩⟩
end Go.Proofs.YtifojacfedjedaaGreat.Ev
end

section
namespace Go.Proofs.YtifojacfedjedaaGreat.Ev
open Go.RowKit
set_option linter.unusedVariables false
/-- A window: which block, how much room is behind, from where on, what is seen. -/
structure Win where
  blk : Nat
  room : Nat
  start : Nat
  c : Cells
def winH : List Win → Nat → Tr Blk → Tr Blk
  | [], _, t => t
  | w :: l, i, t => winH l (i + 1) (Tr.set (i + 1) t i (some ⟨winT, w.c⟩))
def winsH (l : List Win) : TH := ⟨winH l 0 .nil, l.length⟩
def winV (l : List Win) : Val := ⟨fun i => match l[i]? with | some w => w.blk | none => 0, fun i => match l[i]? with | some w => w.room | none => 0, fun i => match l[i]? with | some w => w.start | none => 0⟩
theorem winH_get : ∀ (l : List Win) (i : Nat) (t : Tr Blk) (j : Nat), (winH l i t).get j = if i ≤ j ∧ j < i + l.length then (l[j - i]?).map (fun w => ⟨winT, w.c⟩) else t.get j
  | [], i, t, j => by simp [winH]; intro h1 h2; omega
  | w :: l, i, t, j => by
    simp only [winH, winH_get l (i + 1), List.length_cons]
    by_cases e : i = j
    · subst e
      rw [if_neg (by omega), if_pos (by omega)]
      rw [Tr.get_set _ _ _ _ _ (Nat.lt_succ_self i)]
      simp
    · by_cases h : i + 1 ≤ j ∧ j < i + 1 + l.length
      · rw [if_pos h, if_pos (by omega)]
        rw [show j - i = j - (i + 1) + 1 by omega, List.getElem?_cons_succ]
      · rw [if_neg h, if_neg (by omega)]
        rw [Tr.get_set _ _ _ _ _ (Nat.lt_succ_self i), if_neg e]
theorem winsH_get (l : List Win) (j : Nat) : (winsH l).get j = (l[j]?).map (fun w => ⟨winT, w.c⟩) := by
  unfold winsH TH.get
  rw [winH_get]
  by_cases h : j < l.length
  · rw [if_pos (by omega), Nat.sub_zero]
  · rw [if_neg (by omega), List.getElem?_eq_none (by omega)]
    rfl
/-- A window's cells are there. -/
def Seen (W : World) (w : Win) : Prop := plainL w.c.list = true ∧ isMap w.c = false ∧ ∃ cs t fr, W.heap[w.blk]? = some (.cells cs t fr) ∧ ∀ (j : Nat) v, w.c.list[j]? = some v → cs[w.start + j]? = some v
theorem plainL_mem {l : List Value} (h : plainL l = true) : ∀ v ∈ l, plain v = true := by
  induction l with
  | nil => simp
  | cons u l ih =>
    simp only [plainL, Bool.and_eq_true] at h
    intro v hv
    simp only [List.mem_cons] at hv
    rcases hv with rfl | hv
    · exact h.1
    · exact ih h.2 v hv
theorem wins_reps {P : Program} {l : List Win} {W : World} (h : ∀ w ∈ l, Seen W w) : Reps P (fun i => i < l.length) (winV l) (winsH l).sem W := by
  have get : ∀ i b, (winsH l).sem.get i = some b → ∃ w, l[i]? = some w ∧ b = ⟨winT, w.c⟩ ∧ isWin b = true := fun i b hb => by
    have hb : (winsH l).get i = some b := hb
    rw [winsH_get] at hb
    cases hl : l[i]? with
    | none => rw [hl] at hb; cases hb
    | some w => rw [hl] at hb; simp at hb; subst hb; exact ⟨w, rfl, rfl, by unfold isWin; rw [Nat.ble_eq]; exact Nat.le_refl _⟩
  refine ⟨fun i b hb => ?_, fun i j b b' hb hb' _ => ?_, fun i b hb => ?_, fun i hi => hi⟩
  · obtain ⟨w, h1, rfl, h2⟩ := get i b hb
    obtain ⟨p1, p2, cs, t, fr, p3, p4⟩ := h w (List.mem_of_getElem? h1)
    refine ⟨.cells cs t fr, ?_, ?_⟩
    · simp only [winV, h1]; exact p3
    · unfold lies
      simp only [h2]
      refine ⟨p2, cs, t, fr, rfl, fun j v hv => ?_⟩
      simp only [winV, h1]
      rw [conc_plain _ _ (plainL_mem p1 v (List.mem_of_getElem? hv))]
      exact p4 j v hv
  · obtain ⟨_, _, _, h1⟩ := get i b hb
    obtain ⟨_, _, _, h2⟩ := get j b' hb'
    exact .inr ⟨h1, h2⟩
  · obtain ⟨w, h1, rfl, _⟩ := get i b hb
    obtain ⟨p1, _⟩ := h w (List.mem_of_getElem? h1)
    exact ⟨(List.getElem?_eq_some_iff.1 h1).1, scL_plain _ _ p1⟩
/-- What the evaluator answers to plain values and windows, a call answers; no block is changed. -/
theorem calls_wins {sums : Sums} (hs : SumsOk sums) (n : Nat) (f : FuncId) (l : List Win) (args : List Value) (v : Value) (W : World) (hl : ∀ w ∈ l, Seen W w) (ha : scL (fun i => i < l.length) args) (hv : plain v = true) (h : outV (ev sums n f args (winsH l)) = some v) :
    Calls Tryz.prog f ⟨concL (winV l) args⟩ W fun e W' => e = .returned v ∧ Below W.heap.size W W' := by
  obtain ⟨H', L, hg⟩ := outV_get h
  have hr := wins_reps (P := Tryz.prog) hl
  have hc := (ev_sound hs n f).calls args (winsH l) v H' L hg _ (winV l) W hr ha
  refine hc.mono ?_
  rintro e W' ⟨K', ρ', rfl, _, _, hf, _, _⟩
  refine ⟨by rw [conc_plain _ _ hv], ⟨hf.os, hf.tape, hf.output, hf.size, fun k hk => hf.off k hk (fun i _ ⟨b, hb, hw⟩ => ?_)⟩⟩
  have hb : (winsH l).get i = some b := hb
  rw [winsH_get] at hb
  cases hx : l[i]? with
  | none => rw [hx] at hb; cases hb
  | some w =>
    rw [hx] at hb
    simp at hb
    subst hb
    have : isWin ⟨winT, w.c⟩ = true := by unfold isWin; rw [Nat.ble_eq]; exact Nat.le_refl _
    rw [this] at hw
    cases hw
end Go.Proofs.YtifojacfedjedaaGreat.Ev
end

section
namespace Go.Proofs.YtifojacfedjedaaGreat.Ev
set_option linter.unusedVariables false
noncomputable def bodyOf (f : Nat) : Option Code := match fns f with
  | some fn => fn.body
  | none => none
noncomputable def loopAt (f i : Nat) : Option Code := match bodyOf f with
  | some b => findLoop i (loopsIn b)
  | none => none
/-- One round of the loop at region i of function f. -/
noncomputable def round (sums : Sums) (fuel : Nat) (f i n0 : Nat) (F : LForm) (x : List Atom) : Tree (Ex × List Atom) := match loopAt f i with
  | some c => round1 Tryz.prog (ev sums fuel) (sums.loop f) n0 fuel F c x
  | none => .bad
noncomputable def withLoop (sums : Sums) (f i : Nat) (ls : LSum) : Sums := ⟨sums.call, fun g j => cond (Nat.beq g f && Nat.beq j i) (some ls) (sums.loop g j)⟩
noncomputable def withCall (sums : Sums) (f : Nat) (s : Sum) : Sums := ⟨fun g => cond (Nat.beq g f) (some s) (sums.call g), sums.loop⟩
theorem withCall_ok {sums : Sums} (h : SumsOk sums) {f : Nat} {s : Sum} (hs : SoundSum Tryz.prog f s) (hf : (fns f).isSome = true) : SumsOk (withCall sums f s) := by
  refine ⟨fun g t ht => ?_, h.loop⟩
  unfold withCall at ht
  simp only at ht
  cases hb : Nat.beq g f with
  | false => rw [hb] at ht; exact h.call g t ht
  | true =>
    rw [hb] at ht
    cases ht
    obtain rfl := Nat.eq_of_beq_eq_true hb
    refine ⟨hs, ?_⟩
    cases hx : fns g with
    | none => rw [hx] at hf; cases hf
    | some fn => exact (fns_ok hx).2
theorem loop_sum {sums : Sums} (h : SumsOk sums) {f i n0 fuel : Nat} {F : LForm} {I : List Atom → Prop} {out : List Atom → Tree (Ex × List Atom)} (m : List Atom → Nat) {b : Code} (hb : bodyOf f = some b) (hk : keysOk (loopsIn b) = true) (hn : n0 ≤ F.pat.nH)
    (step : ∀ x, I x → ∃ e y, (round sums fuel f i n0 F x).get = some (e, y) ∧ (e = .normal → I y ∧ m y < m x ∧ (out y).get = (out x).get) ∧ (e ≠ .normal → (out x).get = some (e, y))) : SumsOk (withLoop sums f i (lsum n0 F I out)) := by
  refine ⟨h.call, fun g fn c n hf hc d hd ls hls => ?_⟩
  unfold loopSum at hls
  cases hr : firstReg d with
  | none => rw [hr] at hls; cases hls
  | some j =>
    rw [hr] at hls
    simp only [withLoop] at hls
    cases hx : (Nat.beq g f && Nat.beq j i) with
    | false =>
      rw [hx] at hls
      refine h.loop g fn c n hf hc d hd ls ?_
      unfold loopSum
      rw [hr]
      exact hls
    | true =>
      rw [hx] at hls
      cases hls
      simp only [Bool.and_eq_true] at hx
      obtain rfl := Nat.eq_of_beq_eq_true hx.1
      obtain rfl := Nat.eq_of_beq_eq_true hx.2
      have hcb : c = b := by
        unfold bodyOf at hb
        rw [hf] at hb
        simp only at hb
        rw [hc] at hb
        exact Option.some.inj hb
      subst hcb
      by_cases e : n = n0
      · subst e
        have hloop : loopAt g j = some d := by
          unfold loopAt
          rw [hb]
          exact findLoop_mem hk hd hr
        refine loop_ok (fuel := fuel) (lp := sums.loop g) m (evCall_ok (env h) fuel) mixed ?_ hn (fun x hx => ?_)
        · intro d' hd' ls' hls'
          refine h.loop g fn c n hf hc d' ?_ ls' hls'
          exact loopsIn_trans hd' hd
        · have := step x hx
          unfold round at this
          rw [hloop] at this
          exact this
      · exact lsum_other e
/-- One round of a loop of several forms. -/
noncomputable def roundM (sums : Sums) (fuel : Nat) (f i n0 : Nat) (F : MForm) (x : List Atom) : Tree (Ex × List Atom) := match loopAt f i with
  | some c => round2 Tryz.prog (ev sums fuel) (sums.loop f) n0 fuel F c x
  | none => .bad
theorem loop_msum {sums : Sums} (h : SumsOk sums) {f i n0 fuel : Nat} {F : MForm} {I : List Atom → Prop} {out : List Atom → Tree (Ex × List Atom)} (m : List Atom → Nat) {b : Code} (hb : bodyOf f = some b) (hk : keysOk (loopsIn b) = true) (hn : headsOk n0 F.heads = true)
    (step : ∀ x, I x → ∃ e y, (roundM sums fuel f i n0 F x).get = some (e, y) ∧ (e = .normal → I y ∧ m y < m x ∧ (out y).get = (out x).get) ∧ (e ≠ .normal → (out x).get = some (e, y))) : SumsOk (withLoop sums f i (msum n0 F I out)) := by
  refine ⟨h.call, fun g fn c n hf hc d hd ls hls => ?_⟩
  unfold loopSum at hls
  cases hr : firstReg d with
  | none => rw [hr] at hls; cases hls
  | some j =>
    rw [hr] at hls
    simp only [withLoop] at hls
    cases hx : (Nat.beq g f && Nat.beq j i) with
    | false =>
      rw [hx] at hls
      refine h.loop g fn c n hf hc d hd ls ?_
      unfold loopSum
      rw [hr]
      exact hls
    | true =>
      rw [hx] at hls
      cases hls
      simp only [Bool.and_eq_true] at hx
      obtain rfl := Nat.eq_of_beq_eq_true hx.1
      obtain rfl := Nat.eq_of_beq_eq_true hx.2
      have hcb : c = b := by
        unfold bodyOf at hb
        rw [hf] at hb
        simp only at hb
        rw [hc] at hb
        exact Option.some.inj hb
      subst hcb
      by_cases e : n = n0
      · subst e
        have hloop : loopAt g j = some d := by
          unfold loopAt
          rw [hb]
          exact findLoop_mem hk hd hr
        refine fam_ok (fuel := fuel) (lp := sums.loop g) m (evCall_ok (env h) fuel) mixed ?_ hn (fun x hx => ?_)
        · intro d' hd' ls' hls'
          refine h.loop g fn c n hf hc d' ?_ ls' hls'
          exact loopsIn_trans hd' hd
        · have := step x hx
          unfold roundM at this
          rw [hloop] at this
          exact this
      · exact msum_other e
theorem loop_tsum {sums : Sums} (h : SumsOk sums) {f i n0 fuel : Nat} {F : LForm} {out : List Atom → Tree (Ex × List Atom)} {b : Code} (hb : bodyOf f = some b) (hk : keysOk (loopsIn b) = true) (hn : n0 ≤ F.pat.nH)
    (step : ∀ x r, (out x).get = some r → ∃ n, iterR (round sums fuel f i n0 F) n x = some r) : SumsOk (withLoop sums f i (tlsum n0 F out)) := by
  refine ⟨h.call, fun g fn c n hf hc d hd ls hls => ?_⟩
  unfold loopSum at hls
  cases hr : firstReg d with
  | none => rw [hr] at hls; cases hls
  | some j =>
    rw [hr] at hls
    simp only [withLoop] at hls
    cases hx : (Nat.beq g f && Nat.beq j i) with
    | false =>
      rw [hx] at hls
      refine h.loop g fn c n hf hc d hd ls ?_
      unfold loopSum
      rw [hr]
      exact hls
    | true =>
      rw [hx] at hls
      cases hls
      simp only [Bool.and_eq_true] at hx
      obtain rfl := Nat.eq_of_beq_eq_true hx.1
      obtain rfl := Nat.eq_of_beq_eq_true hx.2
      have hcb : c = b := by
        unfold bodyOf at hb
        rw [hf] at hb
        simp only at hb
        rw [hc] at hb
        exact Option.some.inj hb
      subst hcb
      by_cases e : n = n0
      · subst e
        have hloop : loopAt g j = some d := by
          unfold loopAt
          rw [hb]
          exact findLoop_mem hk hd hr
        refine loopT_ok (fuel := fuel) (lp := sums.loop g) (evCall_ok (env h) fuel) mixed ?_ hn (fun x r hx => ?_)
        · intro d' hd' ls' hls'
          refine h.loop g fn c n hf hc d' ?_ ls' hls'
          exact loopsIn_trans hd' hd
        · have := step x r hx
          unfold round at this
          rw [hloop] at this
          exact this
      · exact tlsum_other e
theorem loop_tmsum {sums : Sums} (h : SumsOk sums) {f i n0 fuel : Nat} {F : MForm} {out : List Atom → Tree (Ex × List Atom)} {b : Code} (hb : bodyOf f = some b) (hk : keysOk (loopsIn b) = true) (hn : headsOk n0 F.heads = true)
    (step : ∀ x r, (out x).get = some r → ∃ n, iterR (roundM sums fuel f i n0 F) n x = some r) : SumsOk (withLoop sums f i (tmsum n0 F out)) := by
  refine ⟨h.call, fun g fn c n hf hc d hd ls hls => ?_⟩
  unfold loopSum at hls
  cases hr : firstReg d with
  | none => rw [hr] at hls; cases hls
  | some j =>
    rw [hr] at hls
    simp only [withLoop] at hls
    cases hx : (Nat.beq g f && Nat.beq j i) with
    | false =>
      rw [hx] at hls
      refine h.loop g fn c n hf hc d hd ls ?_
      unfold loopSum
      rw [hr]
      exact hls
    | true =>
      rw [hx] at hls
      cases hls
      simp only [Bool.and_eq_true] at hx
      obtain rfl := Nat.eq_of_beq_eq_true hx.1
      obtain rfl := Nat.eq_of_beq_eq_true hx.2
      have hcb : c = b := by
        unfold bodyOf at hb
        rw [hf] at hb
        simp only at hb
        rw [hc] at hb
        exact Option.some.inj hb
      subst hcb
      by_cases e : n = n0
      · subst e
        have hloop : loopAt g j = some d := by
          unfold loopAt
          rw [hb]
          exact findLoop_mem hk hd hr
        refine famT_ok (fuel := fuel) (lp := sums.loop g) (evCall_ok (env h) fuel) mixed ?_ hn (fun x r hx => ?_)
        · intro d' hd' ls' hls'
          refine h.loop g fn c n hf hc d' ?_ ls' hls'
          exact loopsIn_trans hd' hd
        · have := step x r hx
          unfold roundM at this
          rw [hloop] at this
          exact this
      · exact tmsum_other e
end Go.Proofs.YtifojacfedjedaaGreat.Ev
end

section
namespace Go.Proofs.YtifojacfedjedaaGreat.Ev
open Go.RowKit
set_option linter.unusedVariables false
def pureSum (s : List Value → Option Value) : Sum := fun args H => ofOpt (s args) fun v => .leaf (v, H, [])
theorem pureSum_ok {P : Program} {f : FuncId} {s : List Value → Option Value} (hp : ∀ args v, s args = some v → plainL args = true ∧ plain v = true)
    (h : ∀ args v W, s args = some v → Calls P f ⟨args⟩ W fun e W' => e = .returned v ∧ Below W.heap.size W W') : SoundSum P f (pureSum s) := by
  refine ⟨fun args H v H' L hg K ρ w hr hsc => ?_, fun args H v H' L hg => ?_⟩
  · unfold pureSum at hg
    cases hs : s args with
    | none => rw [hs] at hg; simp [ofOpt] at hg
    | some u =>
      rw [hs] at hg
      simp [ofOpt] at hg
      obtain ⟨rfl, rfl, rfl⟩ := hg
      obtain ⟨p1, p2⟩ := hp _ _ hs
      rw [concL_plain _ _ p1]
      refine (h args u w hs).mono ?_
      rintro e w' ⟨rfl, hb⟩
      refine ⟨K, ρ, by rw [conc_plain _ _ p2], sc_plain _ _ p2, ⟨fun i b hi => ?_, hr.inj, hr.known, hr.low⟩, ⟨Same.refl _ _, Nat.le_refl _, hb.os, hb.tape, hb.output, hb.size, fun b hlt _ => hb.block b hlt, fun i hi ⟨b, hg2, _⟩ => absurd (hr.known i b hg2).1 hi, fun i _ _ => rfl, fun i d _ hn => ⟨d, hn, rfl⟩, fun i d hg2 _ => (hr.known i d hg2).1⟩, fun _ x => x, fun _ x => .inl x⟩
      · obtain ⟨o, h1, h2⟩ := hr.blk i b hi
        exact ⟨o, by rw [hb.block _ (hr.lt hi)]; exact h1, h2⟩
  · unfold pureSum at hg
    cases hs : s args with
    | none => rw [hs] at hg; simp [ofOpt] at hg
    | some u =>
      rw [hs] at hg
      simp [ofOpt] at hg
      obtain ⟨rfl, rfl, rfl⟩ := hg
      exact ⟨Nat.le_refl _, fun i _ _ => rfl⟩
/-- A pure function, by the evaluator. -/
theorem pure_of_ev {sums : Sums} (hs : SumsOk sums) (n : Nat) {f : FuncId} {s : List Value → Option Value} (h : ∀ args v, s args = some v → plainL args = true ∧ plain v = true ∧ outV (ev sums n f args ⟨.nil, 0⟩) = some v) : SoundSum Tryz.prog f (pureSum s) :=
  pureSum_ok (fun args v hv => ⟨(h args v hv).1, (h args v hv).2.1⟩) (fun args v W hv => calls_plain hs n f args v (h args v hv).1 (h args v hv).2.1 (h args v hv).2.2 W)
/-- It is used. -/
noncomputable def withPure (sums : Sums) (f : Nat) (s : List Value → Option Value) : Sums := withCall sums f (pureSum s)
theorem withPure_ok {sums sums' : Sums} (hs : SumsOk sums) (hs' : SumsOk sums') (n : Nat) {f : FuncId} {s : List Value → Option Value} (hf : (fns f).isSome = true) (h : ∀ args v, s args = some v → plainL args = true ∧ plain v = true ∧ outV (ev sums' n f args ⟨.nil, 0⟩) = some v) : SumsOk (withPure sums f s) :=
  withCall_ok hs (pure_of_ev hs' n h) hf
/-- A way through an answer's branches, to its value. -/
def walkV : Tree (Value × TH × List Nat) → List Bool → Option (List Bool × Value)
  | .leaf r, [] => some ([], r.1)
  | .br b t e, d :: ds => match cond d (walkV t ds) (walkV e ds) with
    | some (bs, v) => some (b :: bs, v)
    | none => none
  | _, _ => none
/-- A pure function, where a condition holds. -/
def pureIf (s : List Value → Option (Bool × Value)) : Sum := fun args H => ofOpt (s args) fun p => .br p.1 (.leaf (p.2, H, [])) .bad
theorem pureIf_ok {sums : Sums} (hs : SumsOk sums) (n : Nat) {f : FuncId} {s : List Value → Option (Bool × Value)} (h : ∀ args v, s args = some (true, v) → plainL args = true ∧ plain v = true ∧ outV (ev sums n f args ⟨.nil, 0⟩) = some v) : SoundSum Tryz.prog f (pureIf s) := by
  have h2 := pure_of_ev (f := f) (s := fun args => match s args with | some (true, v) => some v | _ => none) hs n (fun args v hv => by
    split at hv
    · rename_i v' hv'; cases hv; exact h args v hv'
    · cases hv)
  have e : ∀ args H r, (pureIf s args H).get = some r → (pureSum (fun args => match s args with | some (true, v) => some v | _ => none) args H).get = some r := by
    intro args H r hr
    unfold pureIf at hr
    unfold pureSum
    cases hx : s args with
    | none => rw [hx] at hr; simp [ofOpt] at hr
    | some p =>
      obtain ⟨b, v⟩ := p
      rw [hx] at hr
      cases b
      · simp [ofOpt] at hr
      · simp only [hx]
        simpa [ofOpt] using hr
  exact ⟨fun args H v H' L hg => h2.calls args H v H' L (e args H _ hg), fun args H v H' L hg => h2.keeps args H v H' L (e args H _ hg)⟩
noncomputable def withIf (sums : Sums) (f : Nat) (s : List Value → Option (Bool × Value)) : Sums := withCall sums f (pureIf s)
theorem withIf_ok {sums sums' : Sums} (hs : SumsOk sums) (hs' : SumsOk sums') (n : Nat) {f : FuncId} {s : List Value → Option (Bool × Value)} (hf : (fns f).isSome = true) (h : ∀ args v, s args = some (true, v) → plainL args = true ∧ plain v = true ∧ outV (ev sums' n f args ⟨.nil, 0⟩) = some v) : SumsOk (withIf sums f s) :=
  withCall_ok hs (pureIf_ok hs' n h) hf
/-- A function by its form, used as a sum wherever it is called. -/
noncomputable def withForm (sums : Sums) (f : Nat) (F : FForm) (I : List Atom → Prop) (out : List Atom → Tree (Nat × List Atom)) : Sums := withCall sums f (canon (fsum F I out))
theorem withForm_ok {sums sums' : Sums} (hs : SumsOk sums) (hs' : SumsOk sums') (n : Nat) {f : FuncId} {F : FForm} {I : List Atom → Prop} {out : List Atom → Tree (Nat × List Atom)} (hf : (fns f).isSome = true)
    (step : ∀ x, I x → ∃ r, (endF (ev sums' n f) F x).get = some r ∧ (out x).get = some r) : SumsOk (withForm sums f F I out) :=
  withCall_ok hs (canon_ok (fsum_ok (ev_sound hs' n f) step)) hf
/-- A function, told over what is reached from its arguments alone. -/
noncomputable def withCanon (sums : Sums) (f : Nat) (n : Nat) : Sums := withCall sums f (canon (ev sums n f))
theorem withCanon_ok {sums : Sums} (hs : SumsOk sums) {f n : Nat} (hf : (fns f).isSome = true) : SumsOk (withCanon sums f n) := withCall_ok hs (canon_ok (ev_sound hs n f)) hf
/-- A function by several forms. -/
noncomputable def withForms (sums : Sums) (f : Nat) (l : List FSpec) : Sums := withCall sums f (canon (fsums l))
theorem withForms_ok {sums sums' : Sums} (hs : SumsOk sums) (hs' : SumsOk sums') (n : Nat) {f : FuncId} {l : List FSpec} (hf : (fns f).isSome = true)
    (step : ∀ a ∈ l, ∀ x, a.I x → ∃ r, (endF (ev sums' n f) a.F x).get = some r ∧ (a.out x).get = some r) : SumsOk (withForms sums f l) :=
  withCall_ok hs (canon_ok (fsums_ok (ev_sound hs' n f) step)) hf
/-- A function by its forms, as trees, used wherever it is called. -/
noncomputable def withT (sums : Sums) (f : Nat) (l : List (FForm × (List Atom → Tree (Nat × List Atom)))) : Sums := withCall sums f (canon (tsums l))
theorem withT_ok {sums sums' : Sums} (hs : SumsOk sums) (hs' : SumsOk sums') (n : Nat) {f : FuncId} {l : List (FForm × (List Atom → Tree (Nat × List Atom)))} (hf : (fns f).isSome = true)
    (step : ∀ a ∈ l, ∀ x r, (a.2 x).get = some r → (endF (ev sums' n f) a.1 x).get = some r) : SumsOk (withT sums f l) :=
  withCall_ok hs (canon_ok (tsums_ok (ev_sound hs' n f) step)) hf
end Go.Proofs.YtifojacfedjedaaGreat.Ev
end
