/- Two sweeps of one ticket: what the one that comes late does. No condition. Two sweeps of one ticket: the one that has got it holds it to the end. No condition. Two sweeps of one ticket: what is left to one of them does not hang on the account of accesses. No condition. Two sweeps of one ticket: states without the memory, a step of the winner and of the other one. No condition. Two sweeps of one ticket: once one of them has got it. No condition. Two sweeps of one ticket: as long as nobody has got it. No condition. Two sweeps of one ticket: what either of them comes to. No condition. Two sweeps of one ticket: how both end. No condition. Two sweeps of one ticket: whatever the turns, what holds between them. No condition. -/
import Derived.Test.YtfccbghmagohaaaGreatSwTwAQ
import Derived.Test.YtfccbghmagohaaaGreatSwOnPQ
import Derived.Test.YtfccbghmagohaaaGreatSwGoPQ
section
namespace Go.Proofs.YtfccbghmagohaaaGreat.Bound
open Go.Proofs.YtfccbghmagohaaaGreat.Ev Go.Proofs.YtfccbghmagohaaaGreat.ChartMath
set_option linter.unusedVariables false
set_option linter.unusedSimpArgs false
/-- A word of a status that bars another sweep of this generation: it is busy, or of a later one. -/
def Barred (g w : Int) : Prop := (gnI w = g ∧ 2 ≤ stI w ∧ bitI w 26 = true) ∨ gnI w ≠ g
theorem barred_ne {g w : Int} (h : Barred g w) : w ≠ newI 5 g ∨ g ≠ gnI (newI 5 g) := by
  by_cases e : w = newI 5 g
  · right
    intro e2
    subst e
    rcases h with ⟨_, _, h3⟩ | h1
    · have p26 : pw 26 = 67108864 := rfl
      simp only [bitI, newI, p26, beq_iff_eq] at h3
      omega
    · exact h1 e2.symm
  · exact .inl e
section
variable {p : Pm} {s : MS} {es eh ew : Int} {ec : Nat} (h : p.good s.ws) (he : isW eh = true) (hk : okT eh p.S = true)
include h he hk
/-- What it had looked at is gone: it looks again. -/
theorem s_en_miss {w : Int} (hw : 0 ≤ w ∧ w < 18446744073709551616) (ho : mok p.T p.S p.K s 4 p.sl w = false) : stepK (hd p 0 [] false [] (enU p w eh ec true ew) s) = some (hd p 0 [] false [] (enU p w eh ec false ew) (mswap p.T p.S p.K s 4 p.sl w (moveI w (stI w) true))) := by
  refine brI ⟨rfl, rfl, rfl, rfl, rfl, rfl, rfl, rfl, rfl, rfl, rfl⟩ ?_
  have hi : isW w = true := by simp only [isW, decide_eq_true_eq]; exact hw
  simp only [pt_enter, den, lf_hd, Tree.get_br, Tree.get_leaf, h.rowB, if_true, mat_lat, he, hk, h.isW, Bool.not_true, Bool.not_false, Bool.false_eq_true, if_false, hi, ho]
  rfl
theorem miss_ws {w v : Int} (ho : mok p.T p.S p.K s 4 p.sl w = false) : (mswap p.T p.S p.K s 4 p.sl w v).ws = s.ws := by
  have _h0 := h
  have _h1 := he
  have _h2 := hk
  simp only [mswap, ho, Bool.false_eq_true, if_false]
/-- One that is barred ends at its next look: busy, or stale. -/
theorem s_en_barred (hb : Barred (genI eh) (p.at s.ws 4 p.sl)) : ∃ e, (e = 2 ∨ e = 3) ∧ stepK (hd p 0 [] false [] (enU p es eh ec false ew) s) = some (hdE p e (p.ld s 4 p.sl)) := by
  rcases hb with ⟨h1, h2, h3⟩ | h1
  · exact ⟨3, .inr rfl, s_en_busy h he hk h1 h2 h3⟩
  · exact ⟨2, .inl rfl, s_en_stale h he hk (.inl h1)⟩
end
end Go.Proofs.YtfccbghmagohaaaGreat.Bound
end

section
namespace Go.Proofs.YtfccbghmagohaaaGreat.Bound
open Go.Proofs.YtfccbghmagohaaaGreat.Ev Go.Proofs.YtfccbghmagohaaaGreat.ChartMath
set_option linter.unusedVariables false
set_option linter.unusedSimpArgs false
/-- It is got by somebody, and nobody is pinned. -/
structure Bz (p : Pm) (ws : List Int) : Prop where
  good : p.good ws
  pins : ∀ k, 0 ≤ k → k < p.T → p.at ws 3 k = 0
  gn : gnI (p.at ws 4 p.sl) = p.gn
  st : 2 ≤ stI (p.at ws 4 p.sl)
  busy : bitI (p.at ws 4 p.sl) 26 = true
theorem wrapW (x : Int) : 0 ≤ IntKind.u64.wrap x ∧ IntKind.u64.wrap x < 18446744073709551616 := by
  have : IntKind.u64.wrap x = x % 18446744073709551616 := by simp [IntKind.wrap, IntKind.bits, IntKind.signed]
  omega
/-- Where the one that has got it stands. -/
inductive Win (p : Pm) : Nat × List Atom → Prop where
  | die {s : MS} (h : Bz p s.ws) : Win p (hd p 4 [] false [] [] s)
  | dead {s : MS} (h : Bz p s.ws) : Win p (hd p 5 [] false [.i (p.at s.ws 4 p.sl)] [] s)
  | tick {s : MS} (cl : Bool) (h : Bz p s.ws) : Win p (hd p 6 [] cl [] [] s)
  | note {s : MS} (cl : Bool) {r : Int} (h : Bz p s.ws) (hr : 0 ≤ r ∧ r < 18446744073709551616) : Win p (hd p 7 [] cl [.i r] [] s)
  | grace {s : MS} (cl : Bool) {a r : Int} (h : Bz p s.ws) (h0 : 0 ≤ a) (h1 : a < p.T) : Win p (hd p 9 [] cl [] [.i p.th, .i a, .i r, .b false] s)
  | keys {s : MS} (cl : Bool) {a : Int} (h : Bz p s.ws) (h0 : 0 ≤ a) (h1 : a < p.K) : Win p (hd p 10 [.i a] cl [] [.i a, .i (-1), .i p.K] s)
  | unmark {s : MS} (cl : Bool) {a : Int} (h : Bz p s.ws) (h0 : 0 ≤ a) (h1 : a < p.K) : Win p (hd p 11 [.i a] cl [.i (p.at s.ws 8 a)] [.i a, .i (-1), .i p.K] s)
  | past {s : MS} (cl : Bool) (h : Bz p s.ws) : Win p (hd p 12 [] cl [] [] s)
  | others {s : MS} (cl : Bool) {a n : Int} (h : Bz p s.ws) (h0 : 0 ≤ a) (h1 : a < p.S) (h2 : a ≠ p.sl) : Win p (hd p 13 [.i a] cl [.i n] [.i a, .i p.sl, .i p.S] s)
  | part {s : MS} (cl : Bool) {a n : Int} (h : Bz p s.ws) (h0 : 0 ≤ a) (h1 : a < p.S) (h2 : a ≠ p.sl) : Win p (hd p 14 [.i a] cl [.i (p.at s.ws 4 a), .i n] [.i a, .i p.sl, .i p.S] s)
  | close {s : MS} (cl : Bool) (h : Bz p s.ws) : Win p (hd p 15 [] cl [] [] s)
  | closed {s : MS} (cl : Bool) (h : Bz p s.ws) : Win p (hd p 16 [] cl [.i (p.at s.ws 4 p.sl)] [] s)
  | nought {s : MS} (cl : Bool) (h : Bz p s.ws) : Win p (hd p 17 [] cl [] [] s)
  | free {s : MS} (cl : Bool) (h : Bz p s.ws) : Win p (hd p 18 [] cl [] [] s)
section
variable {p : Pm} (hp : p.Ok)
include hp
theorem pin_ne {k o j : Int} (hk : k ≠ 3) (j0 : 0 ≤ j) (j1 : j < p.T) (hT : 1 ≤ p.T) (hS : 1 ≤ p.S) : cellOf p.T p.S p.K k o ≠ cellOf p.T p.S p.K 3 j := by
  have _h0 := hp
  unfold cellOf; repeat' split
  all_goals omega
theorem Bz.off {ws : List Int} (h : Bz p ws) {k o v : Int} (hv : 0 ≤ v ∧ v < 18446744073709551616) (hk : k ≠ 3) (hne : cellOf p.T p.S p.K k o ≠ cellOf p.T p.S p.K 4 p.sl) : Bz p (p.set ws k o v) := by
  have hc := h.good.cfg
  have e := at_ne (v := v) (ws := ws) hne
  exact ⟨h.good.lset hv _ _, fun j j0 j1 => (at_ne (pin_ne hp hk j0 j1 hc.1 hc.2.2.1)).trans (h.pins j j0 j1), by rw [e]; exact h.gn, by rw [e]; exact h.st, by rw [e]; exact h.busy⟩
theorem Bz.move {ws : List Int} (h : Bz p ws) {n : Int} (n0 : 2 ≤ n) (n1 : n ≤ 7) : Bz p (p.set ws 4 p.sl (moveI (p.at ws 4 p.sl) n true)) := by
  have hc := h.good.cfg
  have hw := h.good.lat 4 p.sl
  have e := at_st hp h.good (moveI (p.at ws 4 p.sl) n true)
  exact ⟨h.good.lset (mv_word _ _ _ hw) _ _, fun j j0 j1 => (at_ne (pin_ne hp (by omega) j0 j1 hc.1 hc.2.2.1)).trans (h.pins j j0 j1), by rw [e, mv_gn _ _ _ hw]; exact h.gn, by rw [e, mv_st _ _ _ (by omega)]; exact n0, by rw [e, mv_busy]⟩
theorem win_key {s : MS} (cl : Bool) {a : Int} (h : Bz p s.ws) (h0 : 0 ≤ a) : Win p (keySt p cl a s) := by
  have _h0 := hp
  unfold keySt
  split
  · exact .keys cl h h0 (by omega)
  · exact .past cl h
theorem win_wait {s : MS} (cl : Bool) {a r : Int} (h : Bz p s.ws) (h0 : 0 ≤ a) : Win p (waitSt p cl a r s) := by
  unfold waitSt goSt
  split
  · split
    · exact .nought cl h
    · exact win_key hp cl h (by omega)
  · exact .grace cl h h0 (by omega)
theorem win_other {s : MS} (cl : Bool) {a n : Int} (h : Bz p s.ws) (h0 : 0 ≤ a) (h2 : a ≠ p.sl) : Win p (otherSt p cl a n s) := by
  have _h0 := hp
  unfold otherSt
  split
  · exact .others cl h h0 (by omega) h2
  · exact .close cl h
theorem skip_ok {a b : Int} (h0 : 0 ≤ a) : 0 ≤ skip a b ∧ skip a b ≠ b := by
  have _h0 := hp
  unfold skip; split <;> omega
/-- It goes on, and holds it, or lets go of it as one of the next generation. -/
theorem win_step {st : Nat × List Atom} (hw : Win p st) : ∃ r, stepK st = some r ∧ (Win p r ∨ ∃ s, r = hdE p 0 s ∧ p.good s.ws ∧ p.at s.ws 4 p.sl = newI 0 (p.gn + 1)) := by
  have s0 := hp.s0
  have s1 := hp.s1
  have s2 := hp.s2
  cases hw with
  | die h => exact ⟨_, s_die h.good, .inl (.dead (s := p.ld _ 4 p.sl) h)⟩
  | dead h =>
    rename_i s
    have hc := h.good.cfg
    have ho : mok p.T p.S p.K s 4 p.sl (p.at s.ws 4 p.sl) = true := mok_lat (by rw [c_st hp]; omega)
    refine ⟨_, s_dead h.good (h.good.isW 4 p.sl) ho, .inl (.tick false ?_)⟩
    rw [mswap_ws ho]
    exact h.move hp (by omega) (by omega)
  | tick cl h =>
    rename_i s
    have hc := h.good.cfg
    refine ⟨_, s_tick h.good, .inl (.note cl ?_ (h.good.lat 2 0))⟩
    exact h.off hp (wrapW _) (by omega) (ne_ep hp hc.1)
  | note cl h hr =>
    rename_i s r
    have hc := h.good.cfg
    refine ⟨_, s_note h.good hr, .inl (win_wait hp cl ?_ (skip_ok hp (by omega)).1)⟩
    exact h.off hp hr (by omega) (ne_slot hp (by omega) s0 s1 (.inl (by omega)))
  | grace cl h h0 h1 =>
    refine ⟨_, s_grace h.good h0 h1, .inl ?_⟩
    rw [if_neg (fun x => x.1 (h.pins _ h0 h1))]
    exact win_wait hp cl (s := p.ld _ 3 _) h (skip_ok hp (by omega)).1
  | keys cl h h0 h1 =>
    refine ⟨_, s_keys h.good h0 h1 ⟨s0, s2⟩, .inl ?_⟩
    split
    · exact win_key hp cl (s := p.ld _ 8 _) h (by omega)
    · exact .unmark cl (s := p.ld _ 8 _) h h0 h1
  | unmark cl h h0 h1 =>
    rename_i s a
    have hc := h.good.cfg
    have ho : mok p.T p.S p.K s 8 a (p.at s.ws 8 a) = true := mok_lat (by rw [cell_key h0 h1]; omega)
    refine ⟨_, s_unmark h.good h0 h1 ⟨s0, s2⟩ (h.good.isW 8 a) ho, .inl (win_key hp cl ?_ (by omega))⟩
    rw [mswap_ws ho]
    exact h.off hp (dropM_word _ (h.good.lat 8 a) ⟨s0, s2⟩) (by omega) (ne_key hp hc.1 h0 h1)
  | past cl h => exact ⟨_, s_past h.good, .inl (win_other hp cl (s := p.ld _ 6 _) h (skip_ok hp (by omega)).1 (skip_ok hp (by omega)).2)⟩
  | others cl h h0 h1 h2 =>
    refine ⟨_, s_others h.good h0 h1 ⟨s0, s2⟩, .inl ?_⟩
    split
    · exact win_other hp cl (s := p.ld _ 4 _) h (skip_ok hp (by omega)).1 (skip_ok hp (by omega)).2
    · exact .part cl (s := p.ld _ 4 _) h h0 h1 h2
  | part cl h h0 h1 h2 =>
    rename_i s a n
    have hc := h.good.cfg
    have ho : mok p.T p.S p.K s 4 a (p.at s.ws 4 a) = true := mok_lat (by rw [cell_st (by omega) (by omega) h0 h1]; omega)
    refine ⟨_, s_part h.good h0 h1 ⟨s0, s2⟩ (h.good.isW 4 a) ho, .inl (win_other hp cl ?_ (skip_ok hp (by omega)).1 (skip_ok hp (by omega)).2)⟩
    rw [mswap_ws ho]
    exact h.off hp (dropW_word _ (h.good.lat 4 a) ⟨s0, s2⟩) (by omega) (ne_slot hp (by omega) h0 h1 (.inr h2))
  | close cl h => exact ⟨_, s_close h.good, .inl (.closed cl (s := p.ld _ 4 p.sl) h)⟩
  | closed cl h =>
    rename_i s
    have hc := h.good.cfg
    have ho : mok p.T p.S p.K s 4 p.sl (p.at s.ws 4 p.sl) = true := mok_lat (by rw [c_st hp]; omega)
    refine ⟨_, s_closed h.good (h.good.isW 4 p.sl) ho, .inl (.tick true ?_)⟩
    rw [mswap_ws ho]
    exact h.move hp (by omega) (by omega)
  | nought cl h =>
    have hc := h.good.cfg
    refine ⟨_, s_nought h.good, .inl (.free cl ?_)⟩
    exact h.off hp (by omega) (by omega) (ne_slot hp (by omega) s0 s1 (.inl (by omega)))
  | free cl h =>
    have hg0 := hp.g0
    have hg1 := hp.g1
    refine ⟨_, s_free h.good hg0 hg1, .inr ⟨_, rfl, ?_, ?_⟩⟩
    · exact h.good.lset (newI_word (by omega) (by omega) (by omega) (by omega)) _ _
    · exact at_st hp h.good _
end
end Go.Proofs.YtfccbghmagohaaaGreat.Bound
end

section
namespace Go.Proofs.YtfccbghmagohaaaGreat.Bound
open Go.Proofs.YtfccbghmagohaaaGreat.Ev Go.Proofs.YtfccbghmagohaaaGreat.ChartMath
set_option linter.unusedVariables false
set_option linter.unusedSimpArgs false
theorem beq20 {k : Nat} (hk : k ≠ 20) : Nat.beq k 20 = false := by rw [← Bool.not_eq_true]; intro hh; exact hk (Nat.eq_of_beq_eq_true hh)
/-- What is left behind a step. -/
theorem Ends.next {p : Pm} {m : Nat} {st r : Nat × List Atom} {e : Int} {ws : List Int} (h : Ends p m st e ws) (hs : stepK st = some r) (hk : st.1 ≠ 20) : Ends p (m - 1) r e ws := by
  obtain ⟨n, s', h1, h2, h3⟩ := h
  have hb := beq20 hk
  have key : ∀ f, n < f + 1 → ∃ k, n = k + 1 ∧ runK f r = some (k, (hdE p e s').2) := by
    intro f hf
    have := h3 (f + 1) hf
    unfold runK at this
    simp only [hb, cond_false, hs] at this
    split at this
    · rename_i n' y heq
      simp only [Option.some.injEq, Prod.mk.injEq] at this
      exact ⟨n', this.1.symm, heq.trans (by rw [this.2])⟩
    · cases this
  obtain ⟨k, hk1, _⟩ := key n (by omega)
  refine ⟨k, s', by omega, h2, fun f hf => ?_⟩
  obtain ⟨k2, e2, e3⟩ := key f (by omega)
  have e4 : k2 = k := by omega
  rw [e4] at e3
  exact e3
theorem runK_more : ∀ (f g : Nat) (st : Nat × List Atom) (v : Nat × List Atom), runK f st = some v → f ≤ g → runK g st = some v
  | 0, g, st, v, h, hg => by cases h
  | f + 1, 0, st, v, h, hg => by omega
  | f + 1, g + 1, st, v, h, hg => by
    unfold runK at h ⊢
    cases hb : Nat.beq st.1 20 with
    | true => rw [hb] at h; exact h
    | false =>
      rw [hb] at h
      simp only [cond_false] at h ⊢
      cases hs : stepK st with
      | none => rw [hs] at h; cases h
      | some r =>
        rw [hs] at h
        simp only at h ⊢
        cases hr : runK f r with
        | none => rw [hr] at h; cases h
        | some w => rw [hr] at h; rw [runK_more f g r w hr (by omega)]; exact h
theorem runK_setM : ∀ (f k : Nat) (x : List Atom) (m : MS) (n : Nat) (y : List Atom), runK f (k, x) = some (n, y) → ∃ m2, runK f (k, setM x m) = some (n, setM y m2)
  | 0, k, x, m, n, y, h => by cases h
  | f + 1, k, x, m, n, y, h => by
    unfold runK at h ⊢
    simp only at h ⊢
    cases hb : Nat.beq k 20 with
    | true =>
      rw [hb] at h
      cases h
      exact ⟨m, rfl⟩
    | false =>
      rw [hb] at h
      simp only [cond_false] at h ⊢
      cases hs : stepK (k, x) with
      | none => rw [hs] at h; cases h
      | some r =>
        rw [hs] at h
        simp only at h
        obtain ⟨m1, hm1⟩ := sx_all m hs
        rw [hm1]
        simp only
        cases hr : runK f r with
        | none => rw [hr] at h; cases h
        | some w =>
          rw [hr] at h
          cases h
          obtain ⟨m2, hm2⟩ := runK_setM f r.1 r.2 m1 w.1 w.2 hr
          exact ⟨m2, by rw [hm2]⟩
/-- The same words: the same that is left. -/
theorem Ends.same {p : Pm} {m k : Nat} {pre : List Atom} {s s2 : MS} {e : Int} {ws : List Int} (h : Ends p m (k, pre ++ mA p.T p.S p.K p.G p.Q p.l p.c s) e ws) (hs : s2.ws = s.ws) : Ends p m (k, pre ++ mA p.T p.S p.K p.G p.Q p.l p.c s2) e ws := by
  obtain ⟨n, s', h1, h2, h3⟩ := h
  obtain ⟨m2, hm⟩ := runK_setM (n + 1) k _ s2 n _ (h3 (n + 1) (by omega))
  rw [setM_app, ← hs] at hm
  refine ⟨n, { m2 with ws := s'.ws }, h1, h2, fun f hf => ?_⟩
  have e2 : setM (hdE p e s').2 m2 = (hdE p e { m2 with ws := s'.ws }).2 := setM_app [.i e] p.T p.S p.K p.G p.Q p.l p.c s' m2
  rw [e2] at hm
  exact runK_more _ f _ _ hm (by omega)
end Go.Proofs.YtfccbghmagohaaaGreat.Bound
end

section
namespace Go.Proofs.YtfccbghmagohaaaGreat.Bound
open Go.Proofs.YtfccbghmagohaaaGreat.Ev Go.Proofs.YtfccbghmagohaaaGreat.ChartMath
set_option linter.unusedVariables false
set_option linter.unusedSimpArgs false
/-- A sweep's own state, laid over a memory. -/
def AtM (p : Pm) (o : Nat × List Atom) (s : MS) : Nat × List Atom := (o.1, o.2 ++ mA p.T p.S p.K p.G p.Q p.l p.c s)
def ownH (p : Pm) (j : Nat) (a : List Atom) (cl : Bool) (w u : List Atom) : Nat × List Atom := (j, [.i p.T, .i p.S, .i p.K, .i p.G, .i p.Q, .i p.th, .i p.sl, .i p.gn] ++ a ++ [.b cl] ++ w ++ [.i 0] ++ u)
theorem hd_at (p : Pm) (j : Nat) (a : List Atom) (cl : Bool) (w u : List Atom) (s : MS) : hd p j a cl w u s = AtM p (ownH p j a cl w u) s := rfl
theorem hdE_at (p : Pm) (e : Int) (s : MS) : hdE p e s = AtM p (20, [.i e]) s := rfl
theorem win_own {p : Pm} {st : Nat × List Atom} (h : Win p st) : ∃ o s, st = AtM p o s ∧ Bz p s.ws ∧ o.1 ≠ 20 ∧ ∀ s2 : MS, s2.ws = s.ws → Win p (AtM p o s2) := by
  cases h with
  | die h => exact ⟨_, _, hd_at .., h, by simp [ownH], fun s2 e => .die (by rw [e]; exact h)⟩
  | dead h => exact ⟨_, _, hd_at .., h, by simp [ownH], fun s2 e => by rw [← e]; exact .dead (s := s2) (by rw [e]; exact h)⟩
  | tick cl h => exact ⟨_, _, hd_at .., h, by simp [ownH], fun s2 e => .tick cl (by rw [e]; exact h)⟩
  | note cl h hr => exact ⟨_, _, hd_at .., h, by simp [ownH], fun s2 e => .note cl (by rw [e]; exact h) hr⟩
  | grace cl h h0 h1 => exact ⟨_, _, hd_at .., h, by simp [ownH], fun s2 e => .grace cl (by rw [e]; exact h) h0 h1⟩
  | keys cl h h0 h1 => exact ⟨_, _, hd_at .., h, by simp [ownH], fun s2 e => .keys cl (by rw [e]; exact h) h0 h1⟩
  | unmark cl h h0 h1 => exact ⟨_, _, hd_at .., h, by simp [ownH], fun s2 e => by rw [← e]; exact .unmark (s := s2) cl (by rw [e]; exact h) h0 h1⟩
  | past cl h => exact ⟨_, _, hd_at .., h, by simp [ownH], fun s2 e => .past cl (by rw [e]; exact h)⟩
  | others cl h h0 h1 h2 => exact ⟨_, _, hd_at .., h, by simp [ownH], fun s2 e => .others cl (by rw [e]; exact h) h0 h1 h2⟩
  | part cl h h0 h1 h2 => exact ⟨_, _, hd_at .., h, by simp [ownH], fun s2 e => by rw [← e]; exact .part (s := s2) cl (by rw [e]; exact h) h0 h1 h2⟩
  | close cl h => exact ⟨_, _, hd_at .., h, by simp [ownH], fun s2 e => .close cl (by rw [e]; exact h)⟩
  | closed cl h => exact ⟨_, _, hd_at .., h, by simp [ownH], fun s2 e => by rw [← e]; exact .closed (s := s2) cl (by rw [e]; exact h)⟩
  | nought cl h => exact ⟨_, _, hd_at .., h, by simp [ownH], fun s2 e => .nought cl (by rw [e]; exact h)⟩
  | free cl h => exact ⟨_, _, hd_at .., h, by simp [ownH], fun s2 e => .free cl (by rw [e]; exact h)⟩
/-- The other one: it looks, or is about to swap what it saw, or was told no. -/
inductive Lo (p : Pm) (eh : Int) : Nat × List Atom → Prop where
  | look (es ew : Int) (ec : Nat) : Lo p eh (ownH p 0 [] false [] (enU p es eh ec false ew))
  | take (ew : Int) (ec : Nat) : Lo p eh (ownH p 0 [] false [] (enU p (newI 5 (genI eh)) eh ec true ew))
  | no {e : Int} (h : e = 2 ∨ e = 3) : Lo p eh (20, [.i e])
theorem done_stays (p : Pm) (e : Int) (s : MS) : stepK (AtM p (20, [.i e]) s) = some (AtM p (20, [.i e]) s) := rfl
theorem barred_not {g : Int} (g0 : 0 ≤ g) (g1 : g ≤ 1073741823) : ¬ Barred g (newI 5 g) := by
  rintro (⟨_, _, h3⟩ | h1)
  · have p26 : pw 26 = 67108864 := rfl
    simp only [bitI, newI, p26, beq_iff_eq] at h3
    omega
  · exact h1 (by unfold gnI newI; omega)
theorem lo_step {p : Pm} {eh : Int} {o : Nat × List Atom} {s : MS} (hl : Lo p eh o) (h : p.good s.ws) (he : isW eh = true) (hk : okT eh p.S = true) (hb : Barred (genI eh) (p.at s.ws 4 p.sl)) (g0 : 0 ≤ genI eh) (g1 : genI eh ≤ 1073741823) :
    ∃ o' s', stepK (AtM p o s) = some (AtM p o' s') ∧ s'.ws = s.ws ∧ Lo p eh o' := by
  cases hl with
  | look es ew ec =>
    obtain ⟨e, h1, h2⟩ := s_en_barred (es := es) (ew := ew) (ec := ec) h he hk hb
    exact ⟨(20, [.i e]), p.ld s 4 p.sl, h2, rfl, .no h1⟩
  | take ew ec =>
    have hn : p.at s.ws 4 p.sl ≠ newI 5 (genI eh) := fun e => barred_not g0 g1 (e ▸ hb)
    have ho : mok p.T p.S p.K s 4 p.sl (newI 5 (genI eh)) = false := by
      unfold mok
      rw [mat_lat, beq_false_of_ne hn, Bool.and_false]
    exact ⟨ownH p 0 [] false [] (enU p (newI 5 (genI eh)) eh ec false ew), mswap p.T p.S p.K s 4 p.sl (newI 5 (genI eh)) (moveI (newI 5 (genI eh)) (stI (newI 5 (genI eh))) true), s_en_miss h he hk (newI_word (by omega) (by omega) g0 (by omega)) ho, miss_ws h he hk ho, .look _ _ _⟩
  | no h1 => exact ⟨_, s, done_stays p _ s, rfl, .no h1⟩
end Go.Proofs.YtfccbghmagohaaaGreat.Bound
end

section
namespace Go.Proofs.YtfccbghmagohaaaGreat.Bound
open Go.Proofs.YtfccbghmagohaaaGreat.Ev Go.Proofs.YtfccbghmagohaaaGreat.ChartMath
set_option linter.unusedVariables false
set_option linter.unusedSimpArgs false
theorem bz_barred {p : Pm} {ws : List Int} (h : Bz p ws) : Barred p.gn (p.at ws 4 p.sl) := .inl ⟨h.gn, h.st, h.busy⟩
/-- One has got it, and goes on to its end, with these words then; or has done so. The other one's way. -/
def Jw (p : Pm) (eh th2 : Int) (oa ob : Nat × List Atom) (s : MS) (wa : List Int) : Prop :=
  Lo { p with th := th2 } eh ob ∧ ((Win p (AtM p oa s) ∧ oa.1 ≠ 20 ∧ Ends p 150 (AtM p oa s) 0 wa) ∨ (oa = (20, [.i 0]) ∧ s.ws = wa ∧ p.good s.ws ∧ Barred p.gn (p.at s.ws 4 p.sl)))
section
variable {p : Pm} (hp : p.Ok) {eh th2 : Int} {oa ob : Nat × List Atom} {s : MS} {wa : List Int}
include hp
theorem at_inj {o o2 : Nat × List Atom} {s s2 : MS} (h : AtM p o s = AtM p o2 s2) : o = o2 ∧ s = s2 := by
  have _h0 := hp
  unfold AtM at h
  simp only [Prod.mk.injEq] at h
  obtain ⟨h1, h2⟩ := h
  obtain ⟨h3, h4⟩ := List.append_inj' h2 rfl
  refine ⟨Prod.ext h1 h3, ?_⟩
  unfold mA at h4
  simp only [List.cons.injEq, Atom.i.injEq, Atom.b.injEq, Atom.ws.injEq, and_true, true_and] at h4
  obtain ⟨e1, e2, e3, e4, e5, e6, e7, e8⟩ := h4
  cases s
  cases s2
  simp only at e1 e2 e3 e4 e5 e6 e7 e8
  rw [e1, e2, e3, e4, e5, e6, e7, e8]
/-- The one that has got it goes on. -/
theorem jw_win (h : Jw p eh th2 oa ob s wa) : ∃ oa' s', stepK (AtM p oa s) = some (AtM p oa' s') ∧ Jw p eh th2 oa' ob s' wa := by
  obtain ⟨hl, ⟨hw, h20, hE⟩ | ⟨rfl, h2, h3, h4⟩⟩ := h
  · obtain ⟨r, hr, hc⟩ := win_step hp hw
    have hE2 := hE.next hr h20
    rcases hc with hc | ⟨s', rfl, hg, hst⟩
    · obtain ⟨o', s', rfl, hb, hn, ho⟩ := win_own hc
      exact ⟨o', s', hr, hl, .inl ⟨hc, hn, hE2.mono (by omega)⟩⟩
    · refine ⟨(20, [.i 0]), s', hr, hl, .inr ⟨rfl, ?_, hg, .inr ?_⟩⟩
      · obtain ⟨n, s2, h1, h2, h3⟩ := hE2
        have e := h3 (n + 1) (by omega)
        have e2 : runK (n + 1) (hdE p 0 s') = some (0, (hdE p 0 s').2) := rfl
        rw [e2] at e
        simp only [Option.some.injEq, Prod.mk.injEq] at e
        have := (at_inj (p := p) hp (o := (20, [.i 0])) (o2 := (20, [.i 0])) (s := s') (s2 := s2) (Prod.ext rfl e.2)).2
        rw [this]
        exact h2
      · have g0 := hp.g0
        have g1 := hp.g1
        rw [hst, new_gn (by omega) (by omega)]
        omega
  · exact ⟨_, s, done_stays p 0 s, hl, .inr ⟨rfl, h2, h3, h4⟩⟩
/-- The other one goes on. -/
theorem jw_lo (h : Jw p eh th2 oa ob s wa) (he : isW eh = true) (hk : okT eh p.S = true) (hge : p.gn = genI eh) : ∃ ob' s', stepK (AtM { p with th := th2 } ob s) = some (AtM { p with th := th2 } ob' s') ∧ Jw p eh th2 oa ob' s' wa := by
  have g0 := hp.g0
  have g1 := hp.g1
  obtain ⟨hl, hc⟩ := h
  have hb : p.good s.ws ∧ Barred p.gn (p.at s.ws 4 p.sl) := by
    rcases hc with ⟨hw, _, _⟩ | ⟨_, _, h3, h4⟩
    · obtain ⟨o, s0, e, hb, _, _⟩ := win_own hw
      have e2 := (at_inj hp e).2
      subst e2
      exact ⟨hb.good, bz_barred hb⟩
    · exact ⟨h3, h4⟩
  obtain ⟨ob', s', h1, h2, h3⟩ := lo_step (p := { p with th := th2 }) hl hb.1 he hk (by rw [← hge]; exact hb.2) (by omega) (by omega)
  refine ⟨ob', s', h1, h3, ?_⟩
  rcases hc with ⟨hw, h20, hE⟩ | ⟨e1, e2, e3, e4⟩
  · left
    obtain ⟨o, s0, e, hb0, _, ho⟩ := win_own hw
    obtain ⟨rfl, rfl⟩ := at_inj hp e
    exact ⟨ho s' h2, h20, hE.same h2⟩
  · right
    exact ⟨e1, by rw [h2]; exact e2, by rw [h2]; exact e3, by rw [h2]; exact e4⟩
end
end Go.Proofs.YtfccbghmagohaaaGreat.Bound
end

section
namespace Go.Proofs.YtfccbghmagohaaaGreat.Bound
open Go.Proofs.YtfccbghmagohaaaGreat.Ev Go.Proofs.YtfccbghmagohaaaGreat.ChartMath
set_option linter.unusedVariables false
set_option linter.unusedSimpArgs false
/-- Nobody has got it. -/
structure J0 (p : Pm) (eh th2 : Int) (oa ob : Nat × List Atom) (s : MS) (wa wb : List Int) : Prop where
  la : Lo p eh oa
  ka : oa.1 = 0
  lb : Lo { p with th := th2 } eh ob
  kb : ob.1 = 0
  good : p.good s.ws
  pins : ∀ k, 0 ≤ k → k < p.T → p.at s.ws 3 k = 0
  st : p.at s.ws 4 p.sl = newI 5 p.gn
  ea : Ends p 150 (AtM p oa s) 0 wa
  eb : Ends { p with th := th2 } 150 (AtM { p with th := th2 } ob s) 0 wb
theorem J0.swap {p : Pm} {eh th2 : Int} {oa ob : Nat × List Atom} {s : MS} {wa wb : List Int} (h : J0 p eh th2 oa ob s wa wb) : J0 { p with th := th2 } eh p.th ob oa s wb wa :=
  ⟨h.lb, h.kb, h.la, h.ka, h.good, h.pins, h.st, h.eb, h.ea⟩
theorem new5 {g : Int} (g0 : 0 ≤ g) (g1 : g ≤ 1073741823) : gnI (newI 5 g) = g ∧ stI (newI 5 g) = 5 ∧ bitI (newI 5 g) 26 = false := by
  have p26 : pw 26 = 67108864 := rfl
  refine ⟨by unfold gnI newI; omega, by unfold stI newI; omega, ?_⟩
  rw [← Bool.not_eq_true]
  intro h
  simp only [bitI, newI, p26, beq_iff_eq] at h
  omega
theorem j0_step {p : Pm} (hp : p.Ok) {eh th2 : Int} {oa ob : Nat × List Atom} {s : MS} {wa wb : List Int} (h : J0 p eh th2 oa ob s wa wb) (he : isW eh = true) (hk : okT eh p.S = true) (hge : p.gn = genI eh) :
    ∃ oa' s', stepK (AtM p oa s) = some (AtM p oa' s') ∧ (J0 p eh th2 oa' ob s' wa wb ∨ Jw p eh th2 oa' ob s' wa) := by
  have g0 := hp.g0
  have g1 := hp.g1
  have s0 := hp.s0
  have s1 := hp.s1
  have hc := h.good.cfg
  obtain ⟨n1, n2, n3⟩ := new5 g0 g1
  have ka := h.ka
  have h20 : (AtM p oa s).1 ≠ 20 := by show oa.1 ≠ 20; omega
  have hla := h.la
  have hea := h.ea
  cases hla with
  | look es ew ec =>
    have hs := s_en_take (cl := false) (es := es) (ew := ew) (ec := ec) h.good he hk (by rw [h.st, n1]; exact hge) (by rw [h.st, n2]; omega) (by rw [h.st]; exact n3)
    rw [h.st] at hs
    refine ⟨ownH p 0 [] false [] (enU p (newI 5 p.gn) eh ec true ew), p.ld s 4 p.sl, hs, .inl ⟨?_, rfl, h.lb, h.kb, h.good, h.pins, h.st, (hea.next hs h20).mono (by omega), h.eb.same rfl⟩⟩
    rw [hge]
    exact .take ew ec
  | take ew ec =>
    rw [← hge] at hea ⊢
    have ho : mok p.T p.S p.K s 4 p.sl (newI 5 p.gn) = true := by
      have : mok p.T p.S p.K s 4 p.sl (p.at s.ws 4 p.sl) = true := mok_lat (by rw [c_st hp]; omega)
      rw [h.st] at this
      exact this
    have hs := s_en_swap (ew := ew) (ec := ec) h.good he hk (newI_word (s := 5) (g := p.gn) (by omega) (by omega) g0 (by omega)) ho
    rw [n2] at hs
    have hws : (mswap p.T p.S p.K s 4 p.sl (newI 5 p.gn) (moveI (newI 5 p.gn) 5 true)).ws = p.set s.ws 4 p.sl (moveI (newI 5 p.gn) 5 true) := mswap_ws ho
    have hw5 := newI_word (s := 5) (g := p.gn) (by omega) (by omega) g0 (by omega)
    have e := at_st hp h.good (moveI (newI 5 p.gn) 5 true)
    have hb : Bz p (mswap p.T p.S p.K s 4 p.sl (newI 5 p.gn) (moveI (newI 5 p.gn) 5 true)).ws := by
      rw [hws]
      exact ⟨h.good.lset (mv_word _ _ _ hw5) _ _, fun j j0 j1 => (at_ne (pin_ne hp (by omega) j0 j1 hc.1 hc.2.2.1)).trans (h.pins j j0 j1), by rw [e, mv_gn _ _ _ hw5]; exact n1, by rw [e, mv_st _ _ _ (by omega)]; omega, by rw [e, mv_busy]⟩
    refine ⟨ownH p 4 [] false [] [], _, hs, .inr ⟨h.lb, .inl ⟨.die hb, by simp [ownH], (hea.next hs h20).mono (by omega)⟩⟩⟩
  | no h1 => cases ka
end Go.Proofs.YtfccbghmagohaaaGreat.Bound
end

section
namespace Go.Proofs.YtfccbghmagohaaaGreat.Bound
open Go.Proofs.YtfccbghmagohaaaGreat.Ev Go.Proofs.YtfccbghmagohaaaGreat.ChartMath
set_option linter.unusedVariables false
set_option linter.unusedSimpArgs false
section
variable {p : Pm} (hp : p.Ok)
include hp
theorem retire_ep {ws : List Int} (h : p.good ws) (st : Int) : p.at (retireW p ws st) 2 0 = IntKind.u64.wrap (p.at ws 2 0 + 1) := by
  have hc := h.cfg
  have ce : cellOf p.T p.S p.K 2 0 = 1 := cell_ep
  have c4 := c_st hp
  have c7 := c_ret hp
  have s0 := hp.s0
  have h4 : p.good (p.set ws 4 p.sl (moveI (p.at ws 4 p.sl) st false)) := h.lset (mv_word _ _ _ (h.lat _ _)) _ _
  unfold retireW noteW
  rw [at_ne (by omega)]
  exact lat_same (by omega) (h4.cell 2 0)
theorem two_plain {ws : List Int} (h : p.good ws) (hpin : ∀ k, 0 ≤ k → k < p.T → p.at ws 3 k = 0) (hst : p.at ws 4 p.sl = newI 5 p.gn) :
    (sweptI p ws).1 = 0 ∧ p.at (sweptI p ws).2 4 p.sl = newI 0 (p.gn + 1) ∧ (∀ k, 0 ≤ k → k < p.K → p.at (sweptI p ws).2 8 k = dropM (p.at ws 8 k) p.sl) ∧ p.at (sweptI p ws).2 2 0 = IntKind.u64.wrap (IntKind.u64.wrap (p.at ws 2 0 + 1) + 1) := by
  have hc := h.cfg
  have g0 := hp.g0
  have g1 := hp.g1
  have s0 := hp.s0
  have s1 := hp.s1
  have ce : cellOf p.T p.S p.K 2 0 = 1 := cell_ep
  have c4 := c_st hp
  have c6 := c_num hp
  have c7 := c_ret hp
  obtain ⟨n1, n2, n3⟩ := new5 g0 g1
  have h1 := retire_good hp h 6
  have hd := drop_good hp h1
  have h2 := retire_good hp hd 7
  have pinne : ∀ j, 0 ≤ j → j < p.T → cellOf p.T p.S p.K 3 j = 2 + j := by
    intro j j0 j1
    unfold cellOf
    repeat' split
    all_goals omega
  have p1 : ∀ j, 0 ≤ j → j < p.T → p.at (retireW p ws 6) 3 j = 0 := by
    intro j j0 j1
    have := pinne j j0 j1
    rw [retire_off hp h 6 (by omega) (by omega) (by omega)]
    exact hpin j j0 j1
  have p2 : ∀ j, 0 ≤ j → j < p.T → p.at (retireW p (dropW2 p (retireW p ws 6)) 7) 3 j = 0 := by
    intro j j0 j1
    have := pinne j j0 j1
    rw [retire_off hp hd 7 (by omega) (by omega) (by omega), drop_at hp h1 (by omega) (fun x => by omega) (fun x => by omega)]
    exact p1 j j0 j1
  have e : sweptI p ws = (0, finalW p (retireW p (dropW2 p (retireW p ws 6)) 7)) := by
    unfold sweptI
    rw [hst, n1, n2, n3, if_neg (by omega), if_neg (by simp), if_neg (by omega), if_neg (by omega), if_neg (by omega), if_neg (by omega)]
    unfold endB
    rw [if_neg (by
      unfold heldI
      rw [heldF_no _ _ fun j j0 j1 _ => p1 j j0 (by omega)]
      simp)]
    unfold endT
    rw [if_neg (by
      unfold heldI
      rw [heldF_no _ _ fun j j0 j1 _ => p2 j j0 (by omega)]
      simp)]
  rw [e]
  refine ⟨rfl, final_st hp h2, fun k k0 k1 => ?_, ?_⟩
  · have ck := cell_key (T := p.T) (S := p.S) k0 k1
    show p.at (finalW p _) 8 k = _
    unfold finalW
    rw [at_off hp (h2.lset (by omega) _ _) (by omega), at_ne (by omega), retire_off hp hd 7 (by omega) (by omega) (by omega), drop_key hp h1 k0 k1, retire_off hp h 6 (by omega) (by omega) (by omega)]
  · show p.at (finalW p _) 2 0 = _
    unfold finalW
    rw [at_off hp (h2.lset (by omega) _ _) (by omega), at_ne (by omega), retire_ep hp hd 7, drop_at hp h1 (by omega) (fun x => by omega) (fun x => by omega), retire_ep hp h 6]
end
end Go.Proofs.YtfccbghmagohaaaGreat.Bound
end

section
namespace Go.Proofs.YtfccbghmagohaaaGreat.Bound
open Go.Proofs.YtfccbghmagohaaaGreat.Ev Go.Proofs.YtfccbghmagohaaaGreat.ChartMath
set_option linter.unusedVariables false
set_option linter.unusedSimpArgs false
theorem lo_ends {p : Pm} {eh : Int} {o : Nat × List Atom} {s : MS} (hl : Lo p eh o) (h : p.good s.ws) (he : isW eh = true) (hk : okT eh p.S = true) (hb : Barred (genI eh) (p.at s.ws 4 p.sl)) (g0 : 0 ≤ genI eh) (g1 : genI eh ≤ 1073741823) : ∃ e, (e = 2 ∨ e = 3) ∧ Ends p 2 (AtM p o s) e s.ws := by
  have look : ∀ (s : MS) (es ew : Int) (ec : Nat), p.good s.ws → Barred (genI eh) (p.at s.ws 4 p.sl) → ∃ e, (e = 2 ∨ e = 3) ∧ Ends p 1 (AtM p (ownH p 0 [] false [] (enU p es eh ec false ew)) s) e s.ws := by
    intro s es ew ec h hb
    obtain ⟨e, h1, h2⟩ := s_en_barred (es := es) (ew := ew) (ec := ec) h he hk hb
    exact ⟨e, h1, Ends.step h2 (by show (0 : Nat) ≠ 20; decide) (Ends.done p e (p.ld s 4 p.sl))⟩
  cases hl with
  | look es ew ec =>
    obtain ⟨e, h1, h2⟩ := look s es ew ec h hb
    exact ⟨e, h1, h2.mono (by omega)⟩
  | take ew ec =>
    have hn : p.at s.ws 4 p.sl ≠ newI 5 (genI eh) := fun e => barred_not g0 g1 (e ▸ hb)
    have ho : mok p.T p.S p.K s 4 p.sl (newI 5 (genI eh)) = false := by
      unfold mok
      rw [mat_lat, beq_false_of_ne hn, Bool.and_false]
    have hs := s_en_miss (ew := ew) (ec := ec) h he hk (newI_word (s := 5) (by omega) (by omega) g0 (by omega)) ho
    have hw := miss_ws (v := moveI (newI 5 (genI eh)) (stI (newI 5 (genI eh))) true) h he hk ho
    obtain ⟨e, h1, h2⟩ := look (mswap p.T p.S p.K s 4 p.sl (newI 5 (genI eh)) (moveI (newI 5 (genI eh)) (stI (newI 5 (genI eh))) true)) (newI 5 (genI eh)) ew ec (by rw [hw]; exact h) (by rw [hw]; exact hb)
    rw [hw] at h2
    exact ⟨e, h1, Ends.step hs (by show (0 : Nat) ≠ 20; decide) h2⟩
  | no h1 => exact ⟨_, h1, (Ends.done p _ s).mono (by omega)⟩
/-- Both end: one has done it, the other one was told no. -/
def Both (p : Pm) (th2 : Int) (oa ob : Nat × List Atom) (s : MS) (wa wb : List Int) : Prop :=
  ∃ ea eb w1 w2, Ends p 150 (AtM p oa s) ea w1 ∧ (∀ s2 : MS, s2.ws = w1 → Ends { p with th := th2 } 150 (AtM { p with th := th2 } ob s2) eb w2) ∧ ((ea = 0 ∧ (eb = 2 ∨ eb = 3) ∧ w2 = wa) ∨ (eb = 0 ∧ (ea = 2 ∨ ea = 3) ∧ w2 = wb))
section
variable {p : Pm} (hp : p.Ok) {eh th2 : Int} {oa ob : Nat × List Atom} {s : MS} {wa wb : List Int} (he : isW eh = true) (hk : okT eh p.S = true) (hge : p.gn = genI eh)
include hp he hk hge
theorem both_a (hl : Lo { p with th := th2 } eh ob) (hE : Ends p 150 (AtM p oa s) 0 wa) (hg : p.good wa) (hb : Barred p.gn (p.at wa 4 p.sl)) : Both p th2 oa ob s wa wb := by
  have g0 := hp.g0
  have g1 := hp.g1
  have lo : ∀ s2 : MS, s2.ws = wa → ∃ e, (e = 2 ∨ e = 3) ∧ Ends { p with th := th2 } 2 (AtM { p with th := th2 } ob s2) e s2.ws := fun s2 e2 =>
    lo_ends (p := { p with th := th2 }) hl (by rw [e2]; exact hg) he hk (by rw [e2, ← hge]; exact hb) (by omega) (by omega)
  obtain ⟨e, h1, h2⟩ := lo { s with ws := wa } rfl
  exact ⟨0, e, wa, wa, hE, fun s2 e2 => (Ends.same (p := { p with th := th2 }) h2 e2).mono (by omega), .inl ⟨rfl, h1, rfl⟩⟩
theorem both_J0 (h : J0 p eh th2 oa ob s wa wb) (hg : p.good wa) (hb : Barred p.gn (p.at wa 4 p.sl)) : Both p th2 oa ob s wa wb := both_a hp he hk hge h.lb h.ea hg hb
theorem both_Ja (h : Jw p eh th2 oa ob s wa) (hg : p.good wa) (hb : Barred p.gn (p.at wa 4 p.sl)) : Both p th2 oa ob s wa wb := by
  obtain ⟨hl, ⟨hw, h20, hE⟩ | ⟨rfl, h2, h3, h4⟩⟩ := h
  · exact both_a hp he hk hge hl hE hg hb
  · refine both_a hp he hk hge hl ?_ hg hb
    rw [← h2]
    exact (Ends.done p 0 s).mono (by omega)
theorem both_Jb (h : Jw { p with th := th2 } eh p.th ob oa s wb) : Both p th2 oa ob s wa wb := by
  have g0 := hp.g0
  have g1 := hp.g1
  have hq : ({ p with th := th2 } : Pm).Ok := ⟨hp.s0, hp.s1, hp.s2, hp.g0, hp.g1⟩
  obtain ⟨hl, hc⟩ := h
  have hb : p.good s.ws ∧ Barred p.gn (p.at s.ws 4 p.sl) ∧ Ends { p with th := th2 } 150 (AtM { p with th := th2 } ob s) 0 wb := by
    rcases hc with ⟨hw, _, hE⟩ | ⟨rfl, h2, h3, h4⟩
    · obtain ⟨o, s0, e, hb, _, _⟩ := win_own hw
      have e2 := (at_inj hq e).2
      subst e2
      exact ⟨hb.good, .inl ⟨hb.gn, hb.st, hb.busy⟩, hE⟩
    · refine ⟨h3, h4, ?_⟩
      rw [← h2]
      exact (Ends.done { p with th := th2 } 0 s).mono (by omega)
  obtain ⟨e, h1, h2⟩ := lo_ends (p := p) hl hb.1 he hk (by rw [← hge]; exact hb.2.1) (by omega) (by omega)
  exact ⟨e, 0, s.ws, wb, h2.mono (by omega), fun s2 e2 => Ends.same (p := { p with th := th2 }) hb.2.2 e2, .inr ⟨rfl, h1, rfl⟩⟩
end
end Go.Proofs.YtfccbghmagohaaaGreat.Bound
end

section
namespace Go.Proofs.YtfccbghmagohaaaGreat.Bound
open Go.Proofs.YtfccbghmagohaaaGreat.Ev Go.Proofs.YtfccbghmagohaaaGreat.ChartMath
set_option linter.unusedVariables false
set_option linter.unusedSimpArgs false
def JJ (p : Pm) (eh th2 : Int) (oa ob : Nat × List Atom) (s : MS) (wa wb : List Int) : Prop :=
  J0 p eh th2 oa ob s wa wb ∨ Jw p eh th2 oa ob s wa ∨ Jw { p with th := th2 } eh p.th ob oa s wb
section
variable {p : Pm} (hp : p.Ok) {eh th2 : Int} {oa ob : Nat × List Atom} {s : MS} {wa wb : List Int} (he : isW eh = true) (hk : okT eh p.S = true) (hge : p.gn = genI eh)
include hp he hk hge
theorem jj_a (h : JJ p eh th2 oa ob s wa wb) : ∃ oa' s', stepK (AtM p oa s) = some (AtM p oa' s') ∧ JJ p eh th2 oa' ob s' wa wb := by
  rcases h with h | h | h
  · obtain ⟨o', s', h1, h2 | h2⟩ := j0_step hp h he hk hge
    · exact ⟨o', s', h1, .inl h2⟩
    · exact ⟨o', s', h1, .inr (.inl h2)⟩
  · obtain ⟨o', s', h1, h2⟩ := jw_win hp h
    exact ⟨o', s', h1, .inr (.inl h2)⟩
  · have hq : ({ p with th := th2 } : Pm).Ok := ⟨hp.s0, hp.s1, hp.s2, hp.g0, hp.g1⟩
    obtain ⟨o', s', h1, h2⟩ := jw_lo hq h he hk hge
    exact ⟨o', s', h1, .inr (.inr h2)⟩
theorem jj_swap (h : JJ p eh th2 oa ob s wa wb) : JJ { p with th := th2 } eh p.th ob oa s wb wa := by
  have _h0 := hp
  have _h1 := he
  have _h2 := hk
  have _h3 := hge
  rcases h with h | h | h
  · exact .inl h.swap
  · exact .inr (.inr h)
  · exact .inr (.inl h)
theorem jj_b (h : JJ p eh th2 oa ob s wa wb) : ∃ ob' s', stepK (AtM { p with th := th2 } ob s) = some (AtM { p with th := th2 } ob' s') ∧ JJ p eh th2 oa ob' s' wa wb := by
  have hq : ({ p with th := th2 } : Pm).Ok := ⟨hp.s0, hp.s1, hp.s2, hp.g0, hp.g1⟩
  obtain ⟨o', s', h1, h2⟩ := jj_a hq he hk hge (jj_swap hp he hk hge h)
  exact ⟨o', s', h1, jj_swap hq he hk hge h2⟩
theorem jj_both (h : JJ p eh th2 oa ob s wa wb) (hg : p.good wa) (hb : Barred p.gn (p.at wa 4 p.sl)) : Both p th2 oa ob s wa wb := by
  rcases h with h | h | h
  · exact both_J0 hp he hk hge h hg hb
  · exact both_Ja hp he hk hge h hg hb
  · exact both_Jb hp he hk hge h
end
/-- Two sweeps over one memory, by turns. -/
def turnK (p q : Pm) : List Bool → (Nat × List Atom) → (Nat × List Atom) → MS → (Nat × List Atom) → (Nat × List Atom) → MS → Prop
  | [], oa, ob, s, oa', ob', s' => oa' = oa ∧ ob' = ob ∧ s' = s
  | true :: ts, oa, ob, s, oa', ob', s' => ∃ o1 s1, stepK (AtM p oa s) = some (AtM p o1 s1) ∧ turnK p q ts o1 ob s1 oa' ob' s'
  | false :: ts, oa, ob, s, oa', ob', s' => ∃ o1 s1, stepK (AtM q ob s) = some (AtM q o1 s1) ∧ turnK p q ts oa o1 s1 oa' ob' s'
theorem turns_all {p : Pm} (hp : p.Ok) {eh th2 : Int} {wa wb : List Int} (he : isW eh = true) (hk : okT eh p.S = true) (hge : p.gn = genI eh) : ∀ (ts : List Bool) {oa ob : Nat × List Atom} {s : MS}, JJ p eh th2 oa ob s wa wb → ∃ oa' ob' s', turnK p { p with th := th2 } ts oa ob s oa' ob' s' ∧ JJ p eh th2 oa' ob' s' wa wb
  | [], oa, ob, s, h => ⟨oa, ob, s, ⟨rfl, rfl, rfl⟩, h⟩
  | true :: ts, oa, ob, s, h => by
    obtain ⟨o1, s1, h1, h2⟩ := jj_a hp he hk hge h
    obtain ⟨x, y, z, h3, h4⟩ := turns_all hp he hk hge ts h2
    exact ⟨x, y, z, ⟨o1, s1, h1, h3⟩, h4⟩
  | false :: ts, oa, ob, s, h => by
    obtain ⟨o1, s1, h1, h2⟩ := jj_b hp he hk hge h
    obtain ⟨x, y, z, h3, h4⟩ := turns_all hp he hk hge ts h2
    exact ⟨x, y, z, ⟨o1, s1, h1, h3⟩, h4⟩
end Go.Proofs.YtfccbghmagohaaaGreat.Bound
end
