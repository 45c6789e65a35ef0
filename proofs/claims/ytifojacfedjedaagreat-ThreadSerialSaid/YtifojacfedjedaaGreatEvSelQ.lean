/- EV: loops of several forms, where a state tells which ones are tried. No condition. -/
import Derived.Test.YtifojacfedjedaaGreatEvCutQ
namespace Go.Proofs.YtifojacfedjedaaGreat.Ev
set_option linter.unusedVariables false
set_option linter.unusedSimpArgs false
def matSel (n0 : Nat) (s : St) (F : Fam) : List Nat → Option (List Atom)
  | [] => none
  | k :: ks => match nth F k with
    | some (live, p) => match formS n0 live p s with
      | some y => some (.n k :: y)
      | none => matSel n0 s F ks
    | none => matSel n0 s F ks
theorem matSel_ok {n0 : Nat} {s : St} {F : Fam} : ∀ {ks : List Nat} {x : List Atom}, matSel n0 s F ks = some x → ∃ k live p y, x = .n k :: y ∧ nth F k = some (live, p) ∧ formS n0 live p s = some y
  | [], x, h => by simp [matSel] at h
  | k :: ks, x, h => by
    simp only [matSel] at h
    cases hk : nth F k with
    | none => simp only [hk] at h; exact matSel_ok h
    | some q =>
      obtain ⟨live, p⟩ := q
      simp only [hk] at h
      cases hf : formS n0 live p s with
      | none => simp only [hf] at h; exact matSel_ok h
      | some y => simp [hf] at h; exact ⟨k, live, p, y, h.symm, hk, hf⟩
/-- Forms, and which ones are tried behind a round. -/
structure SForm where
  F : MForm
  sel : Ex → St → List Nat
def selFam (n0 : Nat) (s : St) (S : SForm) (e : Ex) : Option (List Atom) := matSel n0 s (exFam S.F e) (S.sel e s)
def round3 (P : Program) (call : FuncId → Sum) (lp : Nat → Option LSum) (n0 fuel : Nat) (S : SForm) (c : Code) (x : List Atom) : Tree (Ex × List Atom) := match bldFam S.F.heads x with
  | some s => evCode P call lp n0 fuel c s fun e s => match selFam n0 s S e with
    | some y => .leaf (e, y)
    | none => .bad
  | none => .bad
section
variable {P : Program}
theorem sel_weak {n0 : Nat} {S : SForm} {s : St} {x : List Atom} {e : Ex} (h : selFam n0 s S e = some x) (hn : n0 ≤ s.H.n) : ∃ s', bldFam (exFam S.F e) x = some s' ∧ Weak P n0 s s' ∧ RE n0 s s' ∧ n0 ≤ s'.H.n := by
  obtain ⟨k, live, p, y, rfl, h3, h4⟩ := matSel_ok h
  obtain ⟨w1, w2, w3⟩ := form_weak (P := P) h4 hn
  exact ⟨bldS p y, by simp only [bldFam, h3], w1, w2, w3⟩
theorem selT_ok {call : FuncId → Sum} {lp : Nat → Option LSum} {n0 fuel : Nat} {S : SForm} {c : Code} {out : List Atom → Tree (Ex × List Atom)} (hc : CallsOk P call) (hm : P.follows .mixedOrders = true) (hl : LoopsOk P lp n0 c) (hn : headsOk n0 S.F.heads = true)
    (step : ∀ x r, (out x).get = some r → ∃ n, iterR (round3 P call lp n0 fuel S c) n x = some r) : LoopOk P n0 c (tmsum n0 S.F out) := by
  have key : ∀ k x sx, bldFam S.F.heads x = some sx → ∀ r sr, iterR (round3 P call lp n0 fuel S c) k x = some r → bldFam (exFam S.F r.1) r.2 = some sr → RE n0 sx sr ∧
      ∀ K0 ρ0 H0 w0 a w, Base n0 K0 H0 → At P K0 ρ0 H0 w0 sx a w → ∀ Q : Exit → Act → World → Prop, (∀ a' w', At P K0 ρ0 H0 w0 sr a' w' → Q r.1.out a' w') → LW P c Q a w := by
    intro k
    induction k with
    | zero => intro x sx hb r sr h; simp [iterR] at h
    | succ k ih =>
      intro x sx hb r sr hr hp
      simp only [iterR] at hr
      cases h1 : (round3 P call lp n0 fuel S c x).get with
      | none => simp [h1] at hr
      | some q =>
      obtain ⟨e, y⟩ := q
      simp only [h1] at hr
      unfold round3 at h1
      simp only [hb] at h1
      have hnx : n0 ≤ sx.H.n := by
        unfold bldFam at hb
        split at hb
        · rename_i k' y'
          split at hb
          · rename_i q p hq
            simp at hb
            subst hb
            rw [bldS_n]
            exact headsOk_nth hn hq
          · cases hb
        · cases hb
      obtain ⟨e', s', re, hk, hw⟩ := code_ok hc hm fuel c sx _ hl hnx h1
      cases hf : selFam n0 s' S e' with
      | none => simp [hf] at hk
      | some y1 =>
        simp [hf] at hk
        obtain ⟨rfl, rfl⟩ := hk
        obtain ⟨s1, b1, w1, w2, w3⟩ := sel_weak (P := P) hf (re.n hnx)
        by_cases he : e' = .normal
        · subst he
          simp only at hr
          obtain ⟨j1, j2⟩ := ih y1 s1 b1 r sr hr hp
          refine ⟨re.trans (w2.trans j1), fun K0 ρ0 H0 w0 a w hb hat Q hQ => ?_⟩
          refine LW.round (hw K0 ρ0 H0 w0 a w hb hat _ (fun a' w' h' => ?_)).1
          exact j2 K0 ρ0 H0 w0 a' w' hb (w1 K0 ρ0 H0 w0 a' w' hb h') Q hQ
        · have : r = (e', y1) := by
            cases e' with
            | normal => exact absurd rfl he
            | exit j => simpa using hr.symm
            | ret => simpa using hr.symm
          subst this
          rw [b1] at hp
          cases hp
          refine ⟨re.trans w2, fun K0 ρ0 H0 w0 a w hb hat Q hQ => ?_⟩
          refine LW.round (hw K0 ρ0 H0 w0 a w hb hat _ (fun a' w' h' => ?_)).1
          have := hQ a' w' (w1 K0 ρ0 H0 w0 a' w' hb h')
          cases e' with
          | normal => exact absurd rfl he
          | exit j => exact this
          | ret => exact this
  intro s e s' h hns
  unfold tmsum at h
  rw [Bool.cond_eq_ite] at h
  split at h
  case isFalse => simp at h
  case isTrue =>
  cases hf : matFam n0 s S.F.heads 0 with
  | none => simp [hf] at h
  | some x =>
    simp only [hf] at h
    rw [Tree.get_bind] at h
    cases ho : (out x).get with
    | none => simp [ho] at h
    | some r =>
      simp only [ho, Option.bind_some] at h
      cases hp : bldFam (exFam S.F r.1) r.2 with
      | none => simp [hp] at h
      | some sr =>
        simp [hp] at h
        obtain ⟨rfl, rfl⟩ := h
        obtain ⟨sx, b1, w1, w2, w3⟩ := fam_weak (P := P) hf hns
        obtain ⟨n, hit⟩ := step x r ho
        obtain ⟨k1, k2⟩ := key n x sx b1 r sr hit hp
        exact ⟨w2.trans k1, fun K0 ρ0 H0 w0 a w hb hat Q hQ => k2 K0 ρ0 H0 w0 a w hb (w1 K0 ρ0 H0 w0 a w hb hat) Q hQ⟩
end
/-- One round of a loop of several forms. -/
noncomputable def roundS (sums : Sums) (fuel : Nat) (f i n0 : Nat) (S : SForm) (x : List Atom) : Tree (Ex × List Atom) := match loopAt f i with
  | some c => round3 Tryz.prog (ev sums fuel) (sums.loop f) n0 fuel S c x
  | none => .bad
theorem loop_ssum {sums : Sums} (h : SumsOk sums) {f i n0 fuel : Nat} {S : SForm} {out : List Atom → Tree (Ex × List Atom)} {b : Code} (hb : bodyOf f = some b) (hk : keysOk (loopsIn b) = true) (hn : headsOk n0 S.F.heads = true)
    (step : ∀ x r, (out x).get = some r → ∃ n, iterR (roundS sums fuel f i n0 S) n x = some r) : SumsOk (withLoop sums f i (tmsum n0 S.F out)) := by
  refine ⟨h.call, fun g fn c n hf hc d hd ls hls => ?_⟩
  unfold loopSum at hls
  cases hr : firstReg d with
  | none => rw [hr] at hls; cases hls
  | some j =>
    rw [hr] at hls
    simp only [withLoop] at hls
    cases hx : (Nat.beq g f && Nat.beq j i) with
    | false =>
      rw [hx] at hls
      refine h.loop g fn c n hf hc d hd ls ?_
      unfold loopSum
      rw [hr]
      exact hls
    | true =>
      rw [hx] at hls
      cases hls
      simp only [Bool.and_eq_true] at hx
      obtain rfl := Nat.eq_of_beq_eq_true hx.1
      obtain rfl := Nat.eq_of_beq_eq_true hx.2
      have hcb : c = b := by
        unfold bodyOf at hb
        rw [hf] at hb
        simp only at hb
        rw [hc] at hb
        exact Option.some.inj hb
      subst hcb
      by_cases e : n = n0
      · subst e
        have hloop : loopAt g j = some d := by
          unfold loopAt
          rw [hb]
          exact findLoop_mem hk hd hr
        refine selT_ok (fuel := fuel) (lp := sums.loop g) (evCall_ok (env h) fuel) mixed ?_ hn (fun x r hx => ?_)
        · intro d' hd' ls' hls'
          refine h.loop g fn c n hf hc d' ?_ ls' hls'
          exact loopsIn_trans hd' hd
        · have := step x r hx
          unfold roundS at this
          rw [hloop] at this
          exact this
      · exact tmsum_other e
end Go.Proofs.YtifojacfedjedaaGreat.Ev
