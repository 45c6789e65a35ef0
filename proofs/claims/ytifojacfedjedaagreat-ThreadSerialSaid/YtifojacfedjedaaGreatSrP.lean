/- What an operation comes to, alone, by the words' values. Conditions stand in the statements. A thread that is given an operation, and goes on to its end, by a law's closure. No condition. Operations of a law's closure, alone, by the words' values. Conditions stand in the statements. -/
import Derived.Test.YtifojacfedjedaaGreatThV
import Derived.Test.YtifojacfedjedaaGreatSwNewQ
section
namespace Go.Proofs.YtifojacfedjedaaGreat.Bound
open Go.Proofs.YtifojacfedjedaaGreat.Ev Go.Proofs.YtifojacfedjedaaGreat.ChartMath
set_option linter.unusedVariables false
set_option linter.unusedSimpArgs false
def upd (f : Int → Int → Int) (k o v : Int) : Int → Int → Int := fun k' o' => if k' = k ∧ o' = o then v else f k' o'
theorem upd_same {f : Int → Int → Int} {k o v : Int} : upd f k o v k o = v := if_pos ⟨rfl, rfl⟩
theorem upd_ne {f : Int → Int → Int} {k o v k' o' : Int} (h : k' ≠ k ∨ o' ≠ o) : upd f k o v k' o' = f k' o' := if_neg fun x => h.elim (fun n => n x.1) (fun n => n x.2)
/-- Words, by kind and number. -/
structure Rep (p : Pm) (ws : List Int) (f : Int → Int → Int) : Prop where
  good : p.good ws
  at_ : ∀ k o, 0 ≤ cellOf p.T p.S p.K k o → p.at ws k o = f k o
theorem cell_inj {T S K k o k' o' : Int} (hT : 1 ≤ T) (hS : 1 ≤ S) (hK : 1 ≤ K) (h0 : 0 ≤ cellOf T S K k o) (h : cellOf T S K k' o' = cellOf T S K k o) : k' = k ∧ o' = o := by
  unfold cellOf at h h0
  repeat' split at h0
  all_goals repeat' split at h
  all_goals omega
section
variable {p : Pm} {a : Ar} {ws : List Int} {f : Int → Int → Int} {k o v : Int}
theorem Rep.set (r : Rep p ws f) (hc : 0 ≤ cellOf p.T p.S p.K k o) (hv : 0 ≤ v ∧ v < 18446744073709551616) : Rep p (p.set ws k o v) (upd f k o v) := by
  have c := r.good.cfg
  refine ⟨good_set r.good hv, fun k' o' h' => ?_⟩
  by_cases e : k' = k ∧ o' = o
  · obtain ⟨rfl, rfl⟩ := e
    rw [upd_same]
    exact at_set r.good hc
  · rw [show upd f k o v k' o' = f k' o' from if_neg e, ← r.at_ k' o' h']
    exact lat_other fun x => e (cell_inj (by omega) (by omega) (by omega) hc x.symm)
theorem Rep.eq (r : Rep p ws f) {f' : Int → Int → Int} (h : ∀ k o, f k o = f' k o) : Rep p ws f' := by
  have : f = f' := funext fun k => funext fun o => h k o
  rw [← this]
  exact r
theorem Rep.word (r : Rep p ws f) (hc : 0 ≤ cellOf p.T p.S p.K k o) : 0 ≤ f k o ∧ f k o < 18446744073709551616 := by
  rw [← r.at_ k o hc]
  exact r.good.lat _ _
theorem c1 : 0 ≤ cellOf p.T p.S p.K 1 0 := by rw [cell_tal]; omega
theorem Rep.c4 (r : Rep p ws f) {o : Int} (h0 : 0 ≤ o) (h1 : o < p.S) {k : Int} (hk : 4 ≤ k) (hk2 : k ≤ 7) : 0 ≤ cellOf p.T p.S p.K k o := by
  have c := r.good.cfg
  rw [cell_st hk hk2 h0 h1]
  omega
theorem Rep.c8 (r : Rep p ws f) {o : Int} (h0 : 0 ≤ o) (h1 : o < p.K) : 0 ≤ cellOf p.T p.S p.K 8 o := cell_ky r.good h0 h1
theorem Rep.cas (r : Rep p ws f) (hc : 0 ≤ cellOf p.T p.S p.K k o) : p.cas ws k o (f k o) = true := by rw [← r.at_ k o hc]; exact cas_self hc
abbrev fE (e h n : Int) (f : Int → Int → Int) (p : Pm) : Int → Int → Int → List Int → Prop := fun e' h' n' ws' => e' = e ∧ h' = h ∧ n' = n ∧ Rep p ws' f
theorem EndsL.fin {e h n : Int} (r : Rep p ws f) : EndsL p a 0 (.done e h n) ws (fE e h n f p) := EndsL.done r.good ⟨rfl, rfl, rfl, r⟩
/-- An Open that finds a slot. -/
theorem x_begin (ht : f 1 0 % 16 = 0) : ∀ (m : Nat) (j i : Int) {ws : List Int} (r : Rep p ws f), 0 ≤ i → i + m = j → j < p.S → (∀ x, 0 ≤ x → x < j → stI (f 4 x) ≠ 0 ∨ gnI (f 4 x) > p.G) → stI (f 4 j) = 0 → gnI (f 4 j) ≤ p.G →
    EndsL p a (m + 5) (.olook i) ws (fE 0 (mkI j (gnI (f 4 j))) (f 1 0 / 16) (upd (upd (upd f 4 j (moveI (f 4 j) 1 false)) 5 j (f 1 0 / 16)) 4 j (moveI (f 4 j) 2 false)) p)
  | 0, j, i, ws, r, h0, hm, h1, hb, hs, hg => by
    obtain rfl : i = j := by omega
    have hc := r.c4 h0 h1 (k := 4) (by omega) (by omega)
    have hc5 := r.c4 h0 h1 (k := 5) (by omega) (by omega)
    have hw := r.word hc
    have ht1 := r.word (c1 (p := p))
    have e4 := r.at_ 4 i hc
    refine EndsL.step (m := 4) (r := (.otake i (f 4 i), ws)) ?_ ?_
    · simp only [locS, e4, hs, decide_eq_false (show ¬ gnI (f 4 i) > p.G by omega)]
      rfl
    refine EndsL.step (m := 3) (r := (.otally i (f 4 i), p.set ws 4 i (moveI (f 4 i) 1 false))) ?_ ?_
    · show p.swap ws 4 i _ _ _ _ = _
      exact swp_t (r.cas hc)
    have r1 := r.set hc (mv_word (f 4 i) 1 false hw)
    have e1 : p.at (p.set ws 4 i (moveI (f 4 i) 1 false)) 1 0 = f 1 0 := by rw [r1.at_ 1 0 c1, upd_ne (.inl (by omega))]
    refine EndsL.step (m := 2) (r := (.onote i (f 4 i) (f 1 0 / 16), p.set ws 4 i (moveI (f 4 i) 1 false))) ?_ ?_
    · simp only [locS, e1, decide_eq_false (show ¬ f 1 0 % 16 - 1 ≥ 0 by omega), cond_false]
    have r2 := r1.set hc5 (v := f 1 0 / 16) (by omega)
    refine EndsL.step (m := 1) (r := (.ostart i (f 4 i) (f 1 0 / 16), _)) rfl ?_
    have r3 := r2.set hc (mv_word (f 4 i) 2 false hw)
    refine EndsL.step (m := 0) (r := (.done 0 (mkI i (gnI (f 4 i))) (f 1 0 / 16), _)) rfl (EndsL.fin r3)
  | m + 1, j, i, ws, r, h0, hm, h1, hb, hs, hg => by
    have hc := r.c4 h0 (show i < p.S by omega) (k := 4) (by omega) (by omega)
    have e4 := r.at_ 4 i hc
    refine EndsL.step (m := m + 5) (r := (.olook (i + 1), ws)) ?_ (x_begin ht m j (i + 1) r (by omega) (by omega) h1 hb hs hg)
    have hgo : ogoes p i = .olook (i + 1) := by unfold ogoes; rw [if_neg (by omega)]
    simp only [locS, e4, hgo]
    rcases bool_two (stI (f 4 i) != 0) with q | q
    · rw [q]; rfl
    · have hi := hb i h0 (by omega)
      have q0 : stI (f 4 i) = 0 := by simpa using q
      rw [q, decide_eq_true (show gnI (f 4 i) > p.G by rcases hi with hi | hi; exact absurd q0 hi; exact hi)]
      rfl
variable (h0 : 0 ≤ a.sl) (h1 : a.sl < p.S)
include h0 h1
/-- It is left. -/
theorem x_lv {ls st e h n : Int} (r : Rep p ws f) : EndsL p a 2 (.lv false ls st e h n) ws (fE e h n (upd f 4 a.sl (moveI (f 4 a.sl) (bif decide (st < 0) || decide (st > 7) then stI (f 4 a.sl) else st) false)) p) := by
  have hc := r.c4 h0 h1 (k := 4) (by omega) (by omega)
  have e4 := r.at_ 4 a.sl hc
  refine EndsL.step (m := 1) (r := (.lv true (f 4 a.sl) st e h n, ws)) (by simp only [locS, e4]) ?_
  have r1 := r.set hc (mv_word (f 4 a.sl) (bif decide (st < 0) || decide (st > 7) then stI (f 4 a.sl) else st) false (r.word hc))
  refine EndsL.step (m := 0) (r := (.done e h n, _)) ?_ (EndsL.fin r1)
  show p.swap ws 4 a.sl _ _ _ _ = _
  exact swp_t (r.cas hc)
/-- Words while it is busy. -/
def fBusy (a : Ar) (f : Int → Int → Int) : Int → Int → Int := upd f 4 a.sl (moveI (f 4 a.sl) (stI (f 4 a.sl)) true)
/-- It enters. -/
theorem x_en {es : Int} {m : Nat} {Q : Int → Int → Int → List Int → Prop} (r : Rep p ws f) (hg : gnI (f 4 a.sl) = genI a.eh) (hs : stI (f 4 a.sl) = 2) (hb : bitI (f 4 a.sl) 26 = false) (h : ∀ ws', Rep p ws' (fBusy a f) → EndsL p a m (fstL a) ws' Q) : EndsL p a (m + 2) (.en false es) ws Q := by
  have hc := r.c4 h0 h1 (k := 4) (by omega) (by omega)
  have e4 := r.at_ 4 a.sl hc
  refine EndsL.step (m := m + 1) (r := (.en true (f 4 a.sl), ws)) ?_ ?_
  · simp only [locS, e4, hg, hs, hb, bne_self_eq_false, cond_false]
    rfl
  have r1 := r.set hc (mv_word (f 4 a.sl) (stI (f 4 a.sl)) true (r.word hc))
  refine EndsL.step (m := m) (r := (fstL a, _)) ?_ (h _ r1)
  show p.swap ws 4 a.sl _ _ _ _ = _
  exact swp_t (r.cas hc)
/-- Whether a rival lets it be. -/
def pass (f : Int → Int → Int) (n x : Int) : Prop := 0 ≤ x ∧ stI (f 4 x) = 4 ∧ f 6 x ≠ 0 ∧ f 6 x ≤ n
def fMark (a : Ar) (f : Int → Int → Int) : Int → Int → Int := if bitI (f 8 a.ky) (12 * a.kd + a.sl) = true then f else upd f 8 a.ky (putI (f 8 a.ky) (12 * a.kd + a.sl) true)
/-- Its mark, where nobody else has one of the other side. -/
theorem x_goes {n : Int} (hk : a.kd = 0 ∨ a.kd = 1) (hky : 0 ≤ a.ky ∧ a.ky < p.K) (ho : othL (f 8 a.ky) (1 - a.kd) a.sl = []) (h6 : a.sl ≤ 11) : ∀ (l : List Int) {ws : List Int} (r : Rep p ws f), (∀ x ∈ l, pass f n x ∧ x < p.S) →
    EndsL p a (2 * l.length + 3) (goesL a n (f 8 a.ky) l) ws (fE 0 0 0 (upd (fMark a f) 4 a.sl (moveI (fMark a f 4 a.sl) (stI (fMark a f 4 a.sl)) false)) p)
  | [], ws, r, _ => by
    have hf : foundL a n (f 8 a.ky) = lvOk := by unfold foundL; rw [ho]; rfl
    have hc8 := r.c8 hky.1 hky.2
    show EndsL p a 3 (bif _ then _ else _) ws _
    rw [hf]
    unfold fMark
    rcases bool_two (bitI (f 8 a.ky) (12 * a.kd + a.sl)) with q | q
    · rw [q, if_pos rfl]
      exact (x_lv h0 h1 (ls := 0) (st := -1) (e := 0) (h := 0) (n := 0) r).mono (by omega) fun _ _ _ _ h => h
    · rw [q, if_neg (by simp)]
      have r1 := r.set hc8 (put_w (n := 12 * a.kd + a.sl) (isW_iff.2 (r.word hc8)) (by omega) (by omega))
      refine EndsL.step (m := 2) (r := (foundL a n (f 8 a.ky), p.set ws 8 a.ky (putI (f 8 a.ky) (12 * a.kd + a.sl) true))) ?_ ?_
      · show p.swap ws 8 a.ky _ _ _ _ = _
        exact swp_t (r.cas hc8)
      · rw [hf]
        exact x_lv h0 h1 (ls := 0) (st := -1) (e := 0) (h := 0) (n := 0) r1
  | x :: l, ws, r, hl => by
    obtain ⟨⟨g0, g1, g2, g3⟩, g4⟩ := hl x (by simp)
    have hc4 := r.c4 g0 g4 (k := 4) (by omega) (by omega)
    have hc6 := r.c4 g0 g4 (k := 6) (by omega) (by omega)
    have e4 := r.at_ 4 x hc4
    have e6 := r.at_ 6 x hc6
    show EndsL p a (2 * l.length + 5) (.rival n (f 8 a.ky) (x :: l)) ws _
    refine EndsL.step (m := 2 * l.length + 4) (r := (.num n (f 8 a.ky) (x :: l), ws)) ?_ ?_
    · simp only [locS, List.headD_cons, e4, g1]
      rfl
    refine EndsL.step (m := 2 * l.length + 3) (r := (goesL a n (f 8 a.ky) l, ws)) ?_ (x_goes hk hky ho h6 l r fun y hy => hl y (List.mem_cons_of_mem _ hy))
    simp only [locS, List.headD_cons, List.tail_cons, e6, decide_eq_true g3, show (f 6 x != 0) = true from bne_iff_ne.2 g2, Bool.and_self, cond_true]
/-- A read or a write that may. -/
theorem x_marks {es : Int} (r : Rep p ws f) (hM : a.M = 1 ∨ a.M = 2) (hk : a.kd = 0 ∨ a.kd = 1) (hky : 0 ≤ a.ky ∧ a.ky < p.K) (h6 : a.sl ≤ 11) (hg : gnI (f 4 a.sl) = genI a.eh) (hs : stI (f 4 a.sl) = 2) (hb : bitI (f 4 a.sl) 26 = false)
    (ho : othL (f 8 a.ky) (1 - a.kd) a.sl = []) (hl : a.kd = 0 ∨ ∀ x ∈ othL (f 8 a.ky) 1 a.sl, pass (fBusy a f) (f 5 a.sl) x ∧ x < p.S) :
    EndsL p a 31 (.en false es) ws (fE 0 0 0 (upd (fMark a (fBusy a f)) 4 a.sl (moveI (fMark a (fBusy a f) 4 a.sl) (stI (fMark a (fBusy a f) 4 a.sl)) false)) p) := by
  refine x_en (m := 29) h0 h1 r hg hs hb fun ws' r' => ?_
  have e5 : p.at ws' 5 a.sl = f 5 a.sl := by rw [r'.at_ 5 a.sl (r'.c4 h0 h1 (by omega) (by omega))]; exact upd_ne (.inl (by omega))
  have e8 : p.at ws' 8 a.ky = f 8 a.ky := by rw [r'.at_ 8 a.ky (r'.c8 hky.1 hky.2)]; exact upd_ne (.inl (by omega))
  have b8 : fBusy a f 8 a.ky = f 8 a.ky := upd_ne (.inl (by omega))
  have hF : fstL a = .snap := by unfold fstL; rw [if_neg (by omega), if_neg (by omega)]
  rw [hF]
  refine EndsL.step (m := 28) (r := (.look (f 5 a.sl), ws')) (by simp only [locS, e5]) ?_
  refine EndsL.step (m := 27) (r := (goesL a (f 5 a.sl) (fBusy a f 8 a.ky) (if a.kd = 0 then [] else othL (f 8 a.ky) 1 a.sl), ws')) (by simp only [locS, e8, b8]) ?_
  refine (x_goes h0 h1 hk hky (by rw [b8]; exact ho) h6 _ r' fun x hx => ?_).mono ?_ fun _ _ _ _ h => h
  · by_cases e : a.kd = 0
    · rw [if_pos e] at hx; cases hx
    · rw [if_neg e] at hx
      rcases hl with hl | hl
      · exact absurd hl e
      · exact hl x hx
  · have := othL_len (f 8 a.ky) 1 a.sl
    split
    · simp
    · omega
/-- A write that clashes. -/
theorem x_clash {es x : Int} {l : List Int} (r : Rep p ws f) (hM : a.M = 2) (hk : a.kd = 1) (hky : 0 ≤ a.ky ∧ a.ky < p.K) (hg : gnI (f 4 a.sl) = genI a.eh) (hs : stI (f 4 a.sl) = 2) (hb : bitI (f 4 a.sl) 26 = false)
    (ho : othL (f 8 a.ky) 1 a.sl = x :: l) (hx : 0 ≤ x ∧ x < p.S) (hx2 : stI (fBusy a f 4 x) = 2) :
    EndsL p a 7 (.en false es) ws (fE 8 0 0 (upd (fBusy a f) 4 a.sl (moveI (fBusy a f 4 a.sl) 5 false)) p) := by
  refine x_en (m := 5) h0 h1 r hg hs hb fun ws' r' => ?_
  have e5 : p.at ws' 5 a.sl = f 5 a.sl := by rw [r'.at_ 5 a.sl (r'.c4 h0 h1 (by omega) (by omega))]; exact upd_ne (.inl (by omega))
  have e8 : p.at ws' 8 a.ky = f 8 a.ky := by rw [r'.at_ 8 a.ky (r'.c8 hky.1 hky.2)]; exact upd_ne (.inl (by omega))
  have e4 := r'.at_ 4 x (r'.c4 hx.1 hx.2 (by omega) (by omega))
  have hF : fstL a = .snap := by unfold fstL; rw [if_neg (by omega), if_neg (by omega)]
  rw [hF]
  refine EndsL.step (m := 4) (r := (.look (f 5 a.sl), ws')) (by simp only [locS, e5]) ?_
  refine EndsL.step (m := 3) (r := (.rival (f 5 a.sl) (f 8 a.ky) (x :: l), ws')) (by simp only [locS, e8, if_neg (show ¬ a.kd = 0 by omega), ho]; rfl) ?_
  refine EndsL.step (m := 2) (r := (lvNo 8, ws')) (by simp only [locS, List.headD_cons, e4, hx2]; rfl) ?_
  exact x_lv h0 h1 (ls := 0) (st := 5) (e := 8) (h := 0) (n := 0) r'
/-- Words behind a Commit. -/
def fCom (a : Ar) (f : Int → Int → Int) : Int → Int → Int :=
  let s := moveI (fBusy a f 4 a.sl) 3 true
  let hw := nextI (f 1 0) a.sl
  let g := upd (upd (upd (upd (upd (fBusy a f) 4 a.sl s) 1 0 hw) 6 a.sl (hw / 16)) 4 a.sl (moveI s 4 (bitI s 26))) 1 0 (setI hw)
  upd g 4 a.sl (moveI (moveI s 4 (bitI s 26)) (stI (moveI s 4 (bitI s 26))) false)
end
end Go.Proofs.YtifojacfedjedaaGreat.Bound
end

section
namespace Go.Proofs.YtifojacfedjedaaGreat.Bound
open Go.Proofs.YtifojacfedjedaaGreat.Ev Go.Proofs.YtifojacfedjedaaGreat.ChartMath
set_option linter.unusedVariables false
set_option linter.unusedSimpArgs false
section
variable {α : Type} (L : Nat → Nat → List Atom → PT α) (T S K G Q id y z : Int)
def mKey (M d : Nat) : PT α := .b (isW y) (.b (decide (z < 0)) (L M d [.i 5]) (.b (decide (z ≥ K)) (L M d [.i 5]) (.b (!okT y S) (L M d [.i 2]) (.b (isW y) (L M 0 ([.i z, .i (stSl S y)] ++ stEn y 1 [2])) .bad)))) .bad
def mCall (M d : Nat) (D E : List Atom) : PT α := .b (isW y) (.b (!okT y S) (L M d D) (.b (isW y) (L M 0 E) .bad)) .bad
def mStart (x : Int) : PT α := .b (decide (x < 1)) .bad (.b (decide (x > 6)) .bad (.b (x == 1) (L 0 0 [.i 0, .i 0, .i 0, .i 0, .i 0])
  (.b (x == 2) (mKey L S K y z 1 9) (.b (x == 3) (mKey L S K y z 2 11) (.b (x == 4) (mCall L S y 3 15 [.i 2, .i 0, .i 0] ([.i (stSl S y)] ++ stEn y 1 [2])) (.b (x == 5) (mCall L S y 4 3 [.i 2, .i 0, .i 0] ([.i (stSl S y)] ++ stEn y 1 [2]))
  (.b (x == 6) (mCall L S y 5 20 [.i 2] ([.i T, .i S, .i K, .i G, .i Q, .i id, .i (stSl S y), .i (stGn S y), .b false, .i 0] ++ stEn y 4 [4, 5, 6, 7])) .bad)))))))
end
/-- Which start it is. -/
def stQ (t : Nat → Int) (x y z : Int) : Tree (Nat × Nat × List Atom) := den (mStart (fun M k X => .leaf (M, k, X)) (t 0) (t 1) (t 2) (t 3) (t 4) (t 5) y z x)
noncomputable def doR (T S K G Q : Int) (l : Nat) (t : Nat → Int) (x y z : Int) (s : MS) : Option TR := match (stQ t x y z).get with
  | some q => stRun 500 T S K G Q l t q.1 q.2.1 q.2.2 s
  | none => none
def dnL (T S K G Q : Int) (l : Nat) (R : TR) : Nat × List Atom := (0, [.i (R.t 6), .i (R.t 7), .i (R.t 8)] ++ thA R.t ++ mA T S K G Q l l R.s)
noncomputable def dnLf (T S K G Q : Int) (l : Nat) (t : Nat → Int) (s : MS) (M k : Nat) (X : List Atom) : PT (Nat × List Atom) := .b (stRun 500 T S K G Q l t M k X s).isSome (.leaf (dnL T S K G Q l ((stRun 500 T S K G Q l t M k X s).getD dfE))) .bad
noncomputable def pt_dn (T S K G Q : Int) (l : Nat) (t : Nat → Int) (s : MS) (x y z : Int) : PT (Nat × List Atom) := mStart (dnLf T S K G Q l t s) (t 0) (t 1) (t 2) (t 3) (t 4) (t 5) y z x
def DnB : List (Nat × TypeId × CPat) := [(0, 31, .vals [.ptr 1 0 none])] ++ thB 0 0 0 1 2 ++ [(2, 27, .vals [.ptr 3 0 none])] ++ memBk 3
def DnF : FForm := ⟨[.agg [i6, u6, i6], .ptr 0 0 none, .ptr 2 0 none], DnB, [⟨[(0, .agg [i6, u6, u6])], 1, DnB, 5, [0, 1, 2, 3, 4]⟩]⟩
noncomputable def sumsDn : Sums := withStart (withEn sumsTh)
theorem sumsDn_ok : SumsOk sumsDn := withStart_ok (withEn_ok sumsTh_ok)
theorem ct_dn1 (T S K G Q : Int) (l : Nat) (t : Nat → Int) (s : MS) (x y z : Int) : cutP (pt_dn T S K G Q l t s x y z) (endF (ev sumsDn 60 20) DnF ([.i x, .i y, .i z] ++ thA t ++ mA T S K G Q l l s)) = den (pt_dn T S K G Q l t s x y z) := by kernel_rfl
theorem ct_dn2 (T S K G Q : Int) (l : Nat) (t : Nat → Int) (s : MS) (x y z : Int) : cutP (pt_dn T S K G Q l t s x y z) (endF (ev sumsDn 60 17) DnF ([.i x, .i y, .i z] ++ thA t ++ mA T S K G Q l l s)) = den (pt_dn T S K G Q l t s x y z) := by kernel_rfl
noncomputable def dn_o : List Atom → Tree (Nat × List Atom)
  | .i x :: .i y :: .i z :: .i a0 :: .i a1 :: .i a2 :: .i a3 :: .i a4 :: .i a5 :: .i a6 :: .i a7 :: .i a8 :: r => match r with
    | [.i T, .i S, .i K, .i G, .i Q, .n l, .n c, .i tk, .i ts, .i to, .i told, .i tnew, .b td, .i many, .ws ws] => .br (decide (c = l)) (.br (doR T S K G Q l (fun j => nthD 0 [a0, a1, a2, a3, a4, a5, a6, a7, a8] j) x y z ⟨ws, many, tk, ts, to, told, tnew, td⟩).isSome
      (.leaf (dnL T S K G Q l ((doR T S K G Q l (fun j => nthD 0 [a0, a1, a2, a3, a4, a5, a6, a7, a8] j) x y z ⟨ws, many, tk, ts, to, told, tnew, td⟩).getD dfE))) .bad) .bad
    | _ => .bad
  | _ => .bad
theorem dn_get {T S K G Q : Int} {l : Nat} {t : Nat → Int} {s : MS} {x y z : Int} (h : (doR T S K G Q l t x y z s).isSome = true) : (den (pt_dn T S K G Q l t s x y z)).get = some (dnL T S K G Q l ((doR T S K G Q l t x y z s).getD dfE)) := by
  have e : den (pt_dn T S K G Q l t s x y z) = (stQ t x y z).bind fun q => den (dnLf T S K G Q l t s q.1 q.2.1 q.2.2) := rfl
  rw [e, Tree.get_bind]
  unfold doR at h ⊢
  cases hq : (stQ t x y z).get with
  | none => rw [hq] at h; cases h
  | some q =>
    rw [hq] at h
    simp only at h
    simp only [Option.bind_some, dnLf, den, Tree.get_br, h, if_true, Tree.get_leaf]
theorem dn_st {f : FuncId} (ct : ∀ (T S K G Q : Int) (l : Nat) (t : Nat → Int) (s : MS) (x y z : Int), cutP (pt_dn T S K G Q l t s x y z) (endF (ev sumsDn 60 f) DnF ([.i x, .i y, .i z] ++ thA t ++ mA T S K G Q l l s)) = den (pt_dn T S K G Q l t s x y z)) (x : List Atom) (r : Nat × List Atom) (h : (dn_o x).get = some r) : (endF (ev sumsDn 60 f) DnF x).get = some r := by
  unfold dn_o at h
  split at h
  · split at h
    · rename_i x y z a0 a1 a2 a3 a4 a5 a6 a7 a8 _ T S K G Q l c tk ts to told tnew td many ws
      obtain ⟨h1, h⟩ := get_br h
      obtain rfl := of_decide_eq_true h1
      obtain ⟨h2, h⟩ := get_br h
      exact cut_get (ct T S K G Q _ (fun j => nthD 0 [a0, a1, a2, a3, a4, a5, a6, a7, a8] j) ⟨ws, many, tk, ts, to, told, tnew, td⟩ x y z) ((dn_get h2).trans h)
    · cases h
  · cases h
noncomputable def withDn1 (sums : Sums) : Sums := withT sums 20 [(DnF, dn_o)]
theorem withDn1_ok {sums : Sums} (h : SumsOk sums) : SumsOk (withDn1 sums) := withT_ok h sumsDn_ok 60 (by kernel_rfl) fun a ha => by
  simp only [List.mem_cons, List.not_mem_nil, or_false] at ha
  subst ha
  exact dn_st ct_dn1
noncomputable def withDn2 (sums : Sums) : Sums := withT sums 17 [(DnF, dn_o)]
theorem withDn2_ok {sums : Sums} (h : SumsOk sums) : SumsOk (withDn2 sums) := withT_ok h sumsDn_ok 60 (by kernel_rfl) fun a ha => by
  simp only [List.mem_cons, List.not_mem_nil, or_false] at ha
  subst ha
  exact dn_st ct_dn2
end Go.Proofs.YtifojacfedjedaaGreat.Bound
end

section
namespace Go.Proofs.YtifojacfedjedaaGreat.Bound
open Go.Proofs.YtifojacfedjedaaGreat.Ev Go.Proofs.YtifojacfedjedaaGreat.ChartMath
set_option linter.unusedVariables false
set_option linter.unusedSimpArgs false
section
variable {p : Pm} {a : Ar} {ws : List Int} {f : Int → Int → Int} (h0 : 0 ≤ a.sl) (h1 : a.sl < p.S)
include h0 h1
/-- A Commit that may. -/
theorem x_commit {es : Int} (r : Rep p ws f) (hM : a.M = 3) (h6 : a.sl ≤ 11) (hg : gnI (f 4 a.sl) = genI a.eh) (hs : stI (f 4 a.sl) = 2) (hb : bitI (f 4 a.sl) 26 = false)
    (hj : (anyB (fBusy a f 4 a.sl) 0 && anyB (fBusy a f 4 a.sl) 1) = false) (ht : f 1 0 % 16 = 0) (hQ : f 1 0 / 16 < p.Q) (hn : nextB (f 1 0) = true) (hn6 : f 6 a.sl = 0) :
    EndsL p a 12 (.en false es) ws (fE 0 0 (f 1 0 / 16 + 1) (fCom a f) p) := by
  refine x_en (m := 10) h0 h1 r hg hs hb fun ws1 r1 => ?_
  have hF : fstL a = .judge := by unfold fstL; rw [if_pos hM]
  rw [hF]
  have hc4 := r1.c4 h0 h1 (k := 4) (by omega) (by omega)
  have hc6 := r1.c4 h0 h1 (k := 6) (by omega) (by omega)
  have hw1 := r.word (c1 (p := p))
  have e1 : fBusy a f 1 0 = f 1 0 := upd_ne (.inl (by omega))
  have e6 : fBusy a f 6 a.sl = f 6 a.sl := upd_ne (.inl (by omega))
  have a4 := r1.at_ 4 a.sl hc4
  have w4 := r1.word hc4
  generalize hs0 : fBusy a f 4 a.sl = s0 at *
  refine EndsL.step (m := 9) (r := (.promise s0, ws1)) (by simp only [locS, a4, hj]; rfl) ?_
  have r2 := r1.set hc4 (mv_word s0 3 true w4)
  refine EndsL.step (m := 8) (r := (.count, p.set ws1 4 a.sl (moveI s0 3 true))) ?_ ?_
  · show p.swap ws1 4 a.sl _ _ _ _ = _
    exact swp_t (by have := r1.cas hc4; rwa [hs0] at this)
  generalize hs3 : moveI s0 3 true = s3 at *
  have st3 : stI s3 = 3 := by rw [← hs3]; exact mv_st s0 3 true (by decide)
  have b1 : p.at (p.set ws1 4 a.sl s3) 1 0 = f 1 0 := by rw [r2.at_ 1 0 c1, upd_ne (.inl (by omega)), e1]
  refine EndsL.step (m := 7) (r := (.number (f 1 0), _)) (by simp only [locS, b1, hn, decide_eq_false (show ¬ f 1 0 % 16 - 1 ≥ 0 by omega), decide_eq_false (show ¬ f 1 0 / 16 ≥ p.Q by omega)]; rfl) ?_
  have nx := next_w (a := a) (isW_iff.2 hw1) hn h0 (by omega)
  have hwv := isW_iff.1 nx.1
  have hd : nextI (f 1 0) a.sl / 16 = f 1 0 / 16 + 1 ∧ nextI (f 1 0) a.sl % 16 - 1 = a.sl := by unfold nextI; omega
  generalize hhw : nextI (f 1 0) a.sl = hw at *
  have r3 := r2.set c1 hwv
  refine EndsL.step (m := 6) (r := (.note 0 (f 1 0) hw 0, p.set (p.set ws1 4 a.sl s3) 1 0 hw)) ?_ ?_
  · show p.swap _ 1 0 _ _ _ _ = _
    rw [hn, if_pos rfl, hhw]
    exact swp_t (by have := r2.cas (c1 (p := p)); rwa [upd_ne (.inl (by omega)), e1] at this)
  have b6 : upd (upd (fBusy a f) 4 a.sl s3) 1 0 hw 6 a.sl = 0 := by rw [upd_ne (.inl (by omega)), upd_ne (.inl (by omega)), e6, hn6]
  have r4 := r3.set hc6 (v := hw / 16) (by omega)
  refine EndsL.step (m := 5) (r := (.note 1 (f 1 0) hw 0, p.set (p.set (p.set ws1 4 a.sl s3) 1 0 hw) 6 a.sl (hw / 16))) ?_ ?_
  · show p.swap _ 6 (hw % 16 - 1) 0 (hw / 16) _ _ = _
    rw [hd.2]
    exact swp_t (by have := r3.cas hc6; rwa [b6] at this)
  have b4 : p.at (p.set (p.set (p.set ws1 4 a.sl s3) 1 0 hw) 6 a.sl (hw / 16)) 4 a.sl = s3 := by rw [r4.at_ 4 a.sl hc4, upd_ne (.inl (by omega)), upd_ne (.inl (by omega)), upd_same]
  refine EndsL.step (m := 4) (r := (.note 2 (f 1 0) hw s3, _)) (by simp only [locS, helpL, hd.2, b4, st3]; rfl) ?_
  have w3 : 0 ≤ s3 ∧ s3 < 18446744073709551616 := by rw [← hs3]; exact mv_word s0 3 true w4
  have r5 := r4.set hc4 (mv_word s3 4 (bitI s3 26) w3)
  refine EndsL.step (m := 3) (r := (.note 3 (f 1 0) hw s3, p.set (p.set (p.set (p.set ws1 4 a.sl s3) 1 0 hw) 6 a.sl (hw / 16)) 4 a.sl (moveI s3 4 (bitI s3 26)))) ?_ ?_
  · show p.swap _ 4 (hw % 16 - 1) s3 (moveI s3 4 (bitI s3 26)) _ _ = _
    rw [hd.2]
    exact swp_t (by have := r4.cas hc4; rwa [upd_ne (.inl (by omega)), upd_ne (.inl (by omega)), upd_same] at this)
  have r6 := r5.set c1 (v := setI hw) (by unfold setI; omega)
  refine EndsL.step (m := 2) (r := (.lv false 0 (-1) 0 0 (f 1 0 / 16 + 1), p.set (p.set (p.set (p.set (p.set ws1 4 a.sl s3) 1 0 hw) 6 a.sl (hw / 16)) 4 a.sl (moveI s3 4 (bitI s3 26))) 1 0 (setI hw))) ?_ ?_
  · show p.swap _ 1 0 hw (setI hw) _ _ = _
    exact swp_t (by have := r5.cas (c1 (p := p)); rwa [upd_ne (.inl (by omega)), upd_ne (.inl (by omega)), upd_same] at this)
  have fin := x_lv h0 h1 (ls := 0) (st := -1) (e := 0) (h := 0) (n := f 1 0 / 16 + 1) r6
  have e4 : upd (upd (upd (upd (upd (fBusy a f) 4 a.sl s3) 1 0 hw) 6 a.sl (hw / 16)) 4 a.sl (moveI s3 4 (bitI s3 26))) 1 0 (setI hw) 4 a.sl = moveI s3 4 (bitI s3 26) := by rw [upd_ne (.inl (by omega)), upd_same]
  rw [e4] at fin
  have ef : fCom a f = upd (upd (upd (upd (upd (upd (fBusy a f) 4 a.sl s3) 1 0 hw) 6 a.sl (hw / 16)) 4 a.sl (moveI s3 4 (bitI s3 26))) 1 0 (setI hw)) 4 a.sl (moveI (moveI s3 4 (bitI s3 26)) (stI (moveI s3 4 (bitI s3 26))) false) := by
    unfold fCom
    simp only [hs0, hs3, hhw]
  rw [ef]
  exact fin
end
/-- What an operation came to. -/
structure Res (T S K G Q : Int) (l : Nat) (R : TR) (e h n : Int) (f : Int → Int → Int) : Prop where
  e : R.t 6 = e
  h : R.t 7 = h
  n : R.t 8 = n
  t : ∀ i, i < 6 → R.t i = thT T S K G Q 0 i
  r : Rep (pmAt T S K G Q 0 0 l) R.s.ws f
def fPin (f : Int → Int → Int) : Int → Int → Int := upd f 3 0 (IntKind.u64.wrap (f 2 0 + 1))
def fUn (f : Int → Int → Int) : Int → Int → Int := upd f 3 0 0
section
variable {T S K G Q y z : Int} {l : Nat} {t : Nat → Int} {s : MS} {f f' : Int → Int → Int} {R : TR} {e h n : Int} {ws' : List Int}
theorem Rep.to {ws : List Int} {y y' : Int} (r : Rep (pmAt T S K G Q 0 y l) ws f) : Rep (pmAt T S K G Q 0 y' l) ws f := ⟨r.good, r.at_⟩
variable (ht : ∀ i, i < 6 → t i = thT T S K G Q 0 i)
include ht
theorem res_of (c : Came (pmAt T S K G Q 0 y l) t e h n ws' R) (r : Rep (pmAt T S K G Q 0 y l) ws' f) : Res T S K G Q l R e h n (fUn f) := by
  obtain ⟨c1, c2, c3, c4, c5, c6⟩ := c
  have hc := r.good.cfg
  have hT : (pmAt T S K G Q 0 y l).T = T := rfl
  refine ⟨c1, c2, c3, fun i hi => (c4 i hi).trans (ht i hi), ?_⟩
  rw [c5, ht 5 (by omega)]
  exact (r.set (k := 3) (o := 0) (v := 0) (by rw [cell_pin (by omega) (by omega)]; omega) (by omega)).to
theorem rep_pin (r : Rep (pmAt T S K G Q 0 0 l) s.ws f) : Rep (pmAt T S K G Q 0 y l) (pinW T S K (t 5) s.ws) (fPin f) := by
  have hc := r.good.cfg
  have hT : (pmAt T S K G Q 0 0 l).T = T := rfl
  have e2 : lat T S K s.ws 2 0 = f 2 0 := r.at_ 2 0 (by rw [cell_ep]; omega)
  rw [ht 5 (by omega)]
  unfold pinW fPin
  rw [e2]
  exact (r.set (k := 3) (o := 0) (by rw [cell_pin (by omega) (by omega)]; omega) (u64_range _)).to
theorem t1 : t 1 = S := ht 1 (by omega)
theorem t2 : t 2 = K := ht 2 (by omega)
omit ht in
theorem stQ_1 : (stQ t 1 0 0).get = some (0, 0, [.i 0, .i 0, .i 0, .i 0, .i 0]) := rfl
theorem stQ_2 (hy : isW y = true) (hk : okT y S = true) (h0 : 0 ≤ z) (h1 : z < K) : (stQ t 2 y z).get = some (1, 0, [.i z, .i (slI y)] ++ stEn y 1 [2]) := by
  have e : stSl (t 1) y = slI y := by unfold stSl; rw [t1 ht, if_pos hk]
  have c : (stQ t 2 y z).get = (den (mKey (fun M k X => .leaf (M, k, X)) (t 1) (t 2) y z 1 9)).get := rfl
  rw [c]
  unfold mKey
  simp only [den, Tree.get_br, Tree.get_leaf, hy, t1 ht, t2 ht, hk, if_true, decide_eq_false (show ¬ z < 0 by omega), decide_eq_false (show ¬ z ≥ K by omega), Bool.false_eq_true, if_false, Bool.not_true]
  rw [← t1 ht, e]
theorem stQ_3 (hy : isW y = true) (hk : okT y S = true) (h0 : 0 ≤ z) (h1 : z < K) : (stQ t 3 y z).get = some (2, 0, [.i z, .i (slI y)] ++ stEn y 1 [2]) := by
  have e : stSl (t 1) y = slI y := by unfold stSl; rw [t1 ht, if_pos hk]
  have c : (stQ t 3 y z).get = (den (mKey (fun M k X => .leaf (M, k, X)) (t 1) (t 2) y z 2 11)).get := rfl
  rw [c]
  unfold mKey
  simp only [den, Tree.get_br, Tree.get_leaf, hy, t1 ht, t2 ht, hk, if_true, decide_eq_false (show ¬ z < 0 by omega), decide_eq_false (show ¬ z ≥ K by omega), Bool.false_eq_true, if_false, Bool.not_true]
  rw [← t1 ht, e]
theorem stQ_4 (hy : isW y = true) (hk : okT y S = true) : (stQ t 4 y z).get = some (3, 0, [.i (slI y)] ++ stEn y 1 [2]) := by
  have e : stSl (t 1) y = slI y := by unfold stSl; rw [t1 ht, if_pos hk]
  have c : (stQ t 4 y z).get = (den (mCall (fun M k X => .leaf (M, k, X)) (t 1) y 3 15 [.i 2, .i 0, .i 0] ([.i (stSl (t 1) y)] ++ stEn y 1 [2]))).get := rfl
  rw [c]
  unfold mCall
  simp only [den, Tree.get_br, Tree.get_leaf, hy, t1 ht, hk, if_true, Bool.false_eq_true, if_false, Bool.not_true]
  rw [← t1 ht, e]
omit ht in
theorem doR_is {M k : Nat} {X : List Atom} {x : Int} (h : (stQ t x y z).get = some (M, k, X)) : doR T S K G Q l t x y z s = stRun 500 T S K G Q l t M k X s := by
  unfold doR
  rw [h]
def fBeg (j : Int) (f : Int → Int → Int) : Int → Int → Int := upd (upd (upd f 4 j (moveI (f 4 j) 1 false)) 5 j (f 1 0 / 16)) 4 j (moveI (f 4 j) 2 false)
variable (r : Rep (pmAt T S K G Q 0 0 l) s.ws f)
include r
/-- A Begin. -/
theorem do_begin {j : Nat} (hj : (j : Int) < S) (ht16 : fPin f 1 0 % 16 = 0) (hb : ∀ x, 0 ≤ x → x < (j : Int) → stI (fPin f 4 x) ≠ 0 ∨ gnI (fPin f 4 x) > G) (hs : stI (fPin f 4 j) = 0) (hg : gnI (fPin f 4 j) ≤ G) (eh : mkI j (gnI (fPin f 4 j)) = h) (en : fPin f 1 0 / 16 = n) :
    ∃ R, doR T S K G Q l t 1 0 0 s = some R ∧ Res T S K G Q l R 0 h n (fUn (fBeg j (fPin f))) := by
  have hc := r.good.cfg
  have hS : (pmAt T S K G Q 0 0 l).S = S := rfl
  have hE := x_begin (p := pmAt T S K G Q 0 0 l) (a := arO) (f := fPin f) ht16 j j 0 (rep_pin ht r) (by omega) (by omega) hj hb hs hg
  obtain ⟨R, e', h', n', ws', r1, c, q1, q2, q3, q4⟩ := op_open (th := 0) (y := 0) (t := t) (s := s) (most := 500) r.good (show ((j + 5 : Nat) : Int) + 3 < 500 by omega) (by omega) hE
  subst q1 q2 q3 eh en
  exact ⟨R, (doR_is stQ_1).trans r1, res_of ht c q4⟩
def fMk (j z w : Int) (f : Int → Int → Int) : Int → Int → Int := upd (upd (upd f 4 j (moveI (f 4 j) (stI (f 4 j)) true)) 8 z w) 4 j (moveI (moveI (f 4 j) (stI (f 4 j)) true) (stI (moveI (f 4 j) (stI (f 4 j)) true)) false)
def fBz (j : Int) (f : Int → Int → Int) : Int → Int → Int := upd f 4 j (moveI (f 4 j) (stI (f 4 j)) true)
/-- A write that may: its mark is new. -/
theorem do_write {j w w' : Int} (hy : isW y = true) (hk : okT y S = true) (hj : slI y = j) (hz : 0 ≤ z ∧ z < K) (hg : gnI (fPin f 4 j) = genI y) (hs : stI (fPin f 4 j) = 2) (hb : bitI (fPin f 4 j) 26 = false) (h8 : fPin f 8 z = w) (hbit : bitI w (12 * 1 + j) = false) (hw' : putI w (12 * 1 + j) true = w')
    (ho : othL w (1 - 1) j = []) (hl : ∀ x ∈ othL w 1 j, pass (fBz j (fPin f)) (fPin f 5 j) x ∧ x < S) :
    ∃ R, doR T S K G Q l t 3 y z s = some R ∧ Res T S K G Q l R 0 0 0 (fUn (fMk j z w' (fPin f))) := by
  have hc := r.good.cfg
  obtain ⟨s0, s1, s2, s3⟩ := okT_sl hk
  subst hj h8 hw'
  have hE := x_marks (p := pmAt T S K G Q 0 y l) (a := arOf 2 y z) (f := fPin f) (es := 0) s0 s2 (rep_pin ht r) (.inr rfl) (.inr rfl) hz s1 hg hs hb ho (.inr hl)
  obtain ⟨R, e', h', n', ws', r1, c, q1, q2, q3, q4⟩ := op_en2 (th := 0) (z := z) (t := t) (s := s) (most := 500) r.good (show ((31 : Nat) : Int) + 3 < 500 by omega) (by omega) hy hk hE
  subst q1 q2 q3
  refine ⟨R, (doR_is (stQ_3 ht hy hk hz.1 hz.2)).trans r1, res_of ht c (q4.eq fun k o => ?_)⟩
  have e8 : fBusy (arOf 2 y z) (fPin f) 8 z = fPin f 8 z := upd_ne (.inl (by omega))
  have em : fMark (arOf 2 y z) (fBusy (arOf 2 y z) (fPin f)) = upd (fBusy (arOf 2 y z) (fPin f)) 8 z (putI (fPin f 8 z) (12 * 1 + slI y) true) := by
    unfold fMark
    show (if bitI (fBusy (arOf 2 y z) (fPin f) 8 z) (12 * 1 + slI y) = true then _ else upd _ 8 z (putI (fBusy (arOf 2 y z) (fPin f) 8 z) (12 * 1 + slI y) true)) = _
    rw [e8, hbit, if_neg (by simp)]
  rw [em]
  have e4 : upd (fBusy (arOf 2 y z) (fPin f)) 8 z (putI (fPin f 8 z) (12 * 1 + slI y) true) 4 (slI y) = moveI (fPin f 4 (slI y)) (stI (fPin f 4 (slI y))) true := by
    rw [upd_ne (.inl (by omega))]
    exact upd_same
  show upd _ 4 (slI y) (moveI (upd _ 8 z _ 4 (slI y)) (stI (upd _ 8 z _ 4 (slI y))) false) k o = _
  rw [e4]
  rfl
/-- A write that clashes. -/
theorem do_clash {j w x : Int} {lo : List Int} (hy : isW y = true) (hk : okT y S = true) (hj : slI y = j) (hz : 0 ≤ z ∧ z < K) (hg : gnI (fPin f 4 j) = genI y) (hs : stI (fPin f 4 j) = 2) (hb : bitI (fPin f 4 j) 26 = false) (h8 : fPin f 8 z = w)
    (ho : othL w 1 j = x :: lo) (hx : 0 ≤ x ∧ x < S) (hx2 : stI (fBz j (fPin f) 4 x) = 2) :
    ∃ R, doR T S K G Q l t 3 y z s = some R ∧ Res T S K G Q l R 8 0 0 (fUn (upd (fBz j (fPin f)) 4 j (moveI (fBz j (fPin f) 4 j) 5 false))) := by
  have hc := r.good.cfg
  obtain ⟨s0, s1, s2, s3⟩ := okT_sl hk
  subst hj h8
  have hE := x_clash (p := pmAt T S K G Q 0 y l) (a := arOf 2 y z) (f := fPin f) (es := 0) s0 s2 (rep_pin ht r) rfl rfl hz hg hs hb ho hx hx2
  obtain ⟨R, e', h', n', ws', r1, c, q1, q2, q3, q4⟩ := op_en2 (th := 0) (z := z) (t := t) (s := s) (most := 500) r.good (show ((7 : Nat) : Int) + 3 < 500 by omega) (by omega) hy hk hE
  subst q1 q2 q3
  exact ⟨R, (doR_is (stQ_3 ht hy hk hz.1 hz.2)).trans r1, res_of ht c q4⟩
def fCm (j : Int) (f : Int → Int → Int) : Int → Int → Int := fCom ⟨3, 0, j, 0, 0⟩ f
/-- A commit that may. -/
theorem do_commit {j : Int} (hy : isW y = true) (hk : okT y S = true) (hj : slI y = j) (hg : gnI (fPin f 4 j) = genI y) (hs : stI (fPin f 4 j) = 2) (hb : bitI (fPin f 4 j) 26 = false)
    (hjj : (anyB (fBz j (fPin f) 4 j) 0 && anyB (fBz j (fPin f) 4 j) 1) = false) (ht16 : fPin f 1 0 % 16 = 0) (hQ : fPin f 1 0 / 16 < Q) (hn : nextB (fPin f 1 0) = true) (hn6 : fPin f 6 j = 0) (en : fPin f 1 0 / 16 + 1 = n) :
    ∃ R, doR T S K G Q l t 4 y z s = some R ∧ Res T S K G Q l R 0 0 n (fUn (fCm j (fPin f))) := by
  have hc := r.good.cfg
  obtain ⟨s0, s1, s2, s3⟩ := okT_sl hk
  subst hj en
  have hE := x_commit (p := pmAt T S K G Q 0 y l) (a := arOf 3 y z) (f := fPin f) (es := 0) s0 s2 (rep_pin ht r) rfl s1 hg hs hb hjj ht16 hQ hn hn6
  obtain ⟨R, e', h', n', ws', r1, c, q1, q2, q3, q4⟩ := op_en3 (th := 0) (z := z) (t := t) (s := s) (most := 500) r.good (show ((12 : Nat) : Int) + 3 < 500 by omega) (by omega) hy hk hE
  subst q1 q2 q3
  exact ⟨R, (doR_is (stQ_4 ht hy hk)).trans r1, res_of ht c q4⟩
end
end Go.Proofs.YtifojacfedjedaaGreat.Bound
end
