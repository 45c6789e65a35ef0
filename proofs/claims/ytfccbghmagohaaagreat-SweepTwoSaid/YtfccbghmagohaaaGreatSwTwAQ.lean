/- A step of a sweep looks at words alone: what a memory tells of its last access changes nothing. No condition. -/
import Derived.Test.YtfccbghmagohaaaGreatSwPA
namespace Go.Proofs.YtfccbghmagohaaaGreat.Bound
open Go.Proofs.YtfccbghmagohaaaGreat.Ev Go.Proofs.YtfccbghmagohaaaGreat.ChartMath
set_option linter.unusedVariables false
set_option linter.unusedSimpArgs false
/-- A state's list with another account of accesses. -/
def setM (x : List Atom) (m : MS) : List Atom := x.take (x.length - 8) ++ [.i m.tk, .i m.ts, .i m.to, .i m.told, .i m.tnew, .b m.td, .i m.many] ++ x.drop (x.length - 1)
theorem setM_app (pre : List Atom) (T S K G Q : Int) (l c : Nat) (s m : MS) : setM (pre ++ mA T S K G Q l c s) m = pre ++ mA T S K G Q l c { m with ws := s.ws } := by
  unfold setM mA
  have h1 : (pre ++ [Atom.i T, .i S, .i K, .i G, .i Q, .n l, .n c, .i s.tk, .i s.ts, .i s.to, .i s.told, .i s.tnew, .b s.td, .i s.many, .ws s.ws]).length - 8 = pre.length + 7 := by simp
  have h2 : (pre ++ [Atom.i T, .i S, .i K, .i G, .i Q, .n l, .n c, .i s.tk, .i s.ts, .i s.to, .i s.told, .i s.tnew, .b s.td, .i s.many, .ws s.ws]).length - 1 = pre.length + 14 := by simp
  rw [h1, h2, List.take_append, List.drop_append]
  simp [List.take_of_length_le, List.drop_eq_nil_of_le]
/-- Two trees that differ in the account of accesses. -/
inductive SameT : PT (Nat × List Atom) → PT (Nat × List Atom) → Prop where
  | bad : SameT .bad .bad
  | leaf {j : Nat} {pre : List Atom} {T S K G Q : Int} {l c : Nat} {s s' : MS} (h : s.ws = s'.ws) : SameT (.leaf (j, pre ++ mA T S K G Q l c s)) (.leaf (j, pre ++ mA T S K G Q l c s'))
  | b {q : Bool} {t e t' e' : PT (Nat × List Atom)} : SameT t t' → SameT e e' → SameT (.b q t e) (.b q t' e')
  | cs {n : Nat} {t t' : PT (Nat × List Atom)} : SameT t t' → SameT (.cs n t) (.cs n t')
theorem SameT.get {t t' : PT (Nat × List Atom)} (h : SameT t t') {r : Nat × List Atom} (hr : (den t).get = some r) : ∃ m, (den t').get = some (r.1, setM r.2 m) := by
  induction h with
  | bad => cases hr
  | leaf h =>
    rename_i j pre T S K G Q l c s s'
    cases hr
    refine ⟨s', ?_⟩
    show some (j, _) = some (j, _)
    rw [setM_app, h]
  | b h1 h2 i1 i2 =>
    rename_i q t e t' e'
    simp only [den, Tree.get_br] at hr ⊢
    cases q
    · exact i2 hr
    · exact i1 hr
  | cs h i => exact i hr
theorem sm_enter (th : Int) (sl : Int) (gn : Int) (cl : Bool) (es : Int) (eh : Int) (ec : Nat) (etakes : Bool) (eword : Int) (T : Int) (S : Int) (K : Int) (G : Int) (Q : Int) (l : Nat) (c : Nat) (ws : List Int) (many tk ts to told tnew : Int) (td : Bool) (m : MS) : SameT (pt_enter th sl gn cl es eh ec etakes eword T S K G Q l c ⟨ws, many, tk, ts, to, told, tnew, td⟩) (pt_enter th sl gn cl es eh ec etakes eword T S K G Q l c { m with ws := ws }) := by
  unfold pt_enter
  try unfold lf
  repeat' (first | exact .bad | exact .leaf rfl | exact .leaf (pre := [_]) rfl | refine .b ?_ ?_ | refine .cs ?_)
theorem sx_enter (x : List Atom) (r : Nat × List Atom) (m : MS) (h : (so_enter x).get = some r) : ∃ n, (so_enter (setM x m)).get = some (r.1, setM r.2 n) := by
  unfold so_enter at h
  split at h
  · rename_i cT cS cK cG cQ th sl gn cl no eslot es eh el ec etakes edone eno eword est T S K G Q l c tk ts to told tnew td many ws
    obtain ⟨hg, h2⟩ := get_br h
    obtain ⟨n, hn⟩ := (sm_enter th sl gn cl es eh ec etakes eword T S K G Q l c ws many tk ts to told tnew td m).get h2
    refine ⟨n, ?_⟩
    refine Eq.trans ?_ hn
    exact brI (of_decide_eq_true hg) rfl
  · cases h
theorem sm_number (th : Int) (sl : Int) (gn : Int) (cl : Bool) (T : Int) (S : Int) (K : Int) (G : Int) (Q : Int) (l : Nat) (c : Nat) (ws : List Int) (many tk ts to told tnew : Int) (td : Bool) (m : MS) : SameT (pt_number th sl gn cl T S K G Q l c ⟨ws, many, tk, ts, to, told, tnew, td⟩) (pt_number th sl gn cl T S K G Q l c { m with ws := ws }) := by
  unfold pt_number
  try unfold lf
  repeat' (first | exact .bad | exact .leaf rfl | exact .leaf (pre := [_]) rfl | refine .b ?_ ?_ | refine .cs ?_)
theorem sx_number (x : List Atom) (r : Nat × List Atom) (m : MS) (h : (so_number x).get = some r) : ∃ n, (so_number (setM x m)).get = some (r.1, setM r.2 n) := by
  unfold so_number at h
  split at h
  · rename_i cT cS cK cG cQ th sl gn cl no T S K G Q l c tk ts to told tnew td many ws
    obtain ⟨hg, h2⟩ := get_br h
    obtain ⟨n, hn⟩ := (sm_number th sl gn cl T S K G Q l c ws many tk ts to told tnew td m).get h2
    refine ⟨n, ?_⟩
    refine Eq.trans ?_ hn
    exact brI (of_decide_eq_true hg) rfl
  · cases h
theorem sm_agedL (th : Int) (sl : Int) (gn : Int) (cl : Bool) (aother : Int) (anumber : Int) (T : Int) (S : Int) (K : Int) (G : Int) (Q : Int) (l : Nat) (c : Nat) (ws : List Int) (many tk ts to told tnew : Int) (td : Bool) (m : MS) : SameT (pt_agedL th sl gn cl aother anumber T S K G Q l c ⟨ws, many, tk, ts, to, told, tnew, td⟩) (pt_agedL th sl gn cl aother anumber T S K G Q l c { m with ws := ws }) := by
  unfold pt_agedL
  try unfold lf
  repeat' (first | exact .bad | exact .leaf rfl | exact .leaf (pre := [_]) rfl | refine .b ?_ ?_ | refine .cs ?_)
theorem sx_agedL (x : List Atom) (r : Nat × List Atom) (m : MS) (h : (so_agedL x).get = some r) : ∃ n, (so_agedL (setM x m)).get = some (r.1, setM r.2 n) := by
  unfold so_agedL at h
  split at h
  · rename_i cT cS cK cG cQ th sl gn cl no aother anumber alater aat aslot aslots T S K G Q l c tk ts to told tnew td many ws
    obtain ⟨hg, h2⟩ := get_br h
    obtain ⟨n, hn⟩ := (sm_agedL th sl gn cl aother anumber T S K G Q l c ws many tk ts to told tnew td m).get h2
    refine ⟨n, ?_⟩
    refine Eq.trans ?_ hn
    exact brI (of_decide_eq_true hg) rfl
  · cases h
theorem sm_agedS (th : Int) (sl : Int) (gn : Int) (cl : Bool) (aother : Int) (anumber : Int) (T : Int) (S : Int) (K : Int) (G : Int) (Q : Int) (l : Nat) (c : Nat) (ws : List Int) (many tk ts to told tnew : Int) (td : Bool) (m : MS) : SameT (pt_agedS th sl gn cl aother anumber T S K G Q l c ⟨ws, many, tk, ts, to, told, tnew, td⟩) (pt_agedS th sl gn cl aother anumber T S K G Q l c { m with ws := ws }) := by
  unfold pt_agedS
  try unfold lf
  repeat' (first | exact .bad | exact .leaf rfl | exact .leaf (pre := [_]) rfl | refine .b ?_ ?_ | refine .cs ?_)
theorem sx_agedS (x : List Atom) (r : Nat × List Atom) (m : MS) (h : (so_agedS x).get = some r) : ∃ n, (so_agedS (setM x m)).get = some (r.1, setM r.2 n) := by
  unfold so_agedS at h
  split at h
  · rename_i cT cS cK cG cQ th sl gn cl no aother anumber alater aat aslot aslots T S K G Q l c tk ts to told tnew td many ws
    obtain ⟨hg, h2⟩ := get_br h
    obtain ⟨n, hn⟩ := (sm_agedS th sl gn cl aother anumber T S K G Q l c ws many tk ts to told tnew td m).get h2
    refine ⟨n, ?_⟩
    refine Eq.trans ?_ hn
    exact brI (of_decide_eq_true hg) rfl
  · cases h
theorem sm_die (th : Int) (sl : Int) (gn : Int) (cl : Bool) (T : Int) (S : Int) (K : Int) (G : Int) (Q : Int) (l : Nat) (c : Nat) (ws : List Int) (many tk ts to told tnew : Int) (td : Bool) (m : MS) : SameT (pt_die th sl gn cl T S K G Q l c ⟨ws, many, tk, ts, to, told, tnew, td⟩) (pt_die th sl gn cl T S K G Q l c { m with ws := ws }) := by
  unfold pt_die
  try unfold lf
  repeat' (first | exact .bad | exact .leaf rfl | exact .leaf (pre := [_]) rfl | refine .b ?_ ?_ | refine .cs ?_)
theorem sx_die (x : List Atom) (r : Nat × List Atom) (m : MS) (h : (so_die x).get = some r) : ∃ n, (so_die (setM x m)).get = some (r.1, setM r.2 n) := by
  unfold so_die at h
  split at h
  · rename_i cT cS cK cG cQ th sl gn cl no T S K G Q l c tk ts to told tnew td many ws
    obtain ⟨hg, h2⟩ := get_br h
    obtain ⟨n, hn⟩ := (sm_die th sl gn cl T S K G Q l c ws many tk ts to told tnew td m).get h2
    refine ⟨n, ?_⟩
    refine Eq.trans ?_ hn
    exact brI (of_decide_eq_true hg) rfl
  · cases h
theorem sm_dead (th : Int) (sl : Int) (gn : Int) (cl : Bool) (w : Int) (T : Int) (S : Int) (K : Int) (G : Int) (Q : Int) (l : Nat) (c : Nat) (ws : List Int) (many tk ts to told tnew : Int) (td : Bool) (m : MS) : SameT (pt_dead th sl gn cl w T S K G Q l c ⟨ws, many, tk, ts, to, told, tnew, td⟩) (pt_dead th sl gn cl w T S K G Q l c { m with ws := ws }) := by
  unfold pt_dead
  try unfold lf
  repeat' (first | exact .bad | exact .leaf rfl | exact .leaf (pre := [_]) rfl | refine .b ?_ ?_ | refine .cs ?_)
theorem sx_dead (x : List Atom) (r : Nat × List Atom) (m : MS) (h : (so_dead x).get = some r) : ∃ n, (so_dead (setM x m)).get = some (r.1, setM r.2 n) := by
  unfold so_dead at h
  split at h
  · rename_i cT cS cK cG cQ th sl gn cl w no T S K G Q l c tk ts to told tnew td many ws
    obtain ⟨hg, h2⟩ := get_br h
    obtain ⟨n, hn⟩ := (sm_dead th sl gn cl w T S K G Q l c ws many tk ts to told tnew td m).get h2
    refine ⟨n, ?_⟩
    refine Eq.trans ?_ hn
    exact brI (of_decide_eq_true hg) rfl
  · cases h
theorem sm_tick (th : Int) (sl : Int) (gn : Int) (cl : Bool) (T : Int) (S : Int) (K : Int) (G : Int) (Q : Int) (l : Nat) (c : Nat) (ws : List Int) (many tk ts to told tnew : Int) (td : Bool) (m : MS) : SameT (pt_tick th sl gn cl T S K G Q l c ⟨ws, many, tk, ts, to, told, tnew, td⟩) (pt_tick th sl gn cl T S K G Q l c { m with ws := ws }) := by
  unfold pt_tick
  try unfold lf
  repeat' (first | exact .bad | exact .leaf rfl | exact .leaf (pre := [_]) rfl | refine .b ?_ ?_ | refine .cs ?_)
theorem sx_tick (x : List Atom) (r : Nat × List Atom) (m : MS) (h : (so_tick x).get = some r) : ∃ n, (so_tick (setM x m)).get = some (r.1, setM r.2 n) := by
  unfold so_tick at h
  split at h
  · rename_i cT cS cK cG cQ th sl gn cl no T S K G Q l c tk ts to told tnew td many ws
    obtain ⟨hg, h2⟩ := get_br h
    obtain ⟨n, hn⟩ := (sm_tick th sl gn cl T S K G Q l c ws many tk ts to told tnew td m).get h2
    refine ⟨n, ?_⟩
    refine Eq.trans ?_ hn
    exact brI (of_decide_eq_true hg) rfl
  · cases h
theorem sm_note (th : Int) (sl : Int) (gn : Int) (cl : Bool) (r : Int) (T : Int) (S : Int) (K : Int) (G : Int) (Q : Int) (l : Nat) (c : Nat) (ws : List Int) (many tk ts to told tnew : Int) (td : Bool) (m : MS) : SameT (pt_note th sl gn cl r T S K G Q l c ⟨ws, many, tk, ts, to, told, tnew, td⟩) (pt_note th sl gn cl r T S K G Q l c { m with ws := ws }) := by
  unfold pt_note
  try unfold lf
  repeat' (first | exact .bad | exact .leaf rfl | exact .leaf (pre := [_]) rfl | refine .b ?_ ?_ | refine .cs ?_)
theorem sx_note (x : List Atom) (r : Nat × List Atom) (m : MS) (h : (so_note x).get = some r) : ∃ n, (so_note (setM x m)).get = some (r.1, setM r.2 n) := by
  unfold so_note at h
  split at h
  · rename_i cT cS cK cG cQ th sl gn cl r no T S K G Q l c tk ts to told tnew td many ws
    obtain ⟨hg, h2⟩ := get_br h
    obtain ⟨n, hn⟩ := (sm_note th sl gn cl r T S K G Q l c ws many tk ts to told tnew td m).get h2
    refine ⟨n, ?_⟩
    refine Eq.trans ?_ hn
    exact brI (of_decide_eq_true hg) rfl
  · cases h
theorem sm_retired (th : Int) (sl : Int) (gn : Int) (cl : Bool) (T : Int) (S : Int) (K : Int) (G : Int) (Q : Int) (l : Nat) (c : Nat) (ws : List Int) (many tk ts to told tnew : Int) (td : Bool) (m : MS) : SameT (pt_retired th sl gn cl T S K G Q l c ⟨ws, many, tk, ts, to, told, tnew, td⟩) (pt_retired th sl gn cl T S K G Q l c { m with ws := ws }) := by
  unfold pt_retired
  try unfold lf
  repeat' (first | exact .bad | exact .leaf rfl | exact .leaf (pre := [_]) rfl | refine .b ?_ ?_ | refine .cs ?_)
theorem sx_retired (x : List Atom) (r : Nat × List Atom) (m : MS) (h : (so_retired x).get = some r) : ∃ n, (so_retired (setM x m)).get = some (r.1, setM r.2 n) := by
  unfold so_retired at h
  split at h
  · rename_i cT cS cK cG cQ th sl gn cl no T S K G Q l c tk ts to told tnew td many ws
    obtain ⟨hg, h2⟩ := get_br h
    obtain ⟨n, hn⟩ := (sm_retired th sl gn cl T S K G Q l c ws many tk ts to told tnew td m).get h2
    refine ⟨n, ?_⟩
    refine Eq.trans ?_ hn
    exact brI (of_decide_eq_true hg) rfl
  · cases h
theorem sm_grace (th : Int) (sl : Int) (gn : Int) (cl : Bool) (gat : Int) (gret : Int) (T : Int) (S : Int) (K : Int) (G : Int) (Q : Int) (l : Nat) (c : Nat) (ws : List Int) (many tk ts to told tnew : Int) (td : Bool) (m : MS) : SameT (pt_grace th sl gn cl gat gret T S K G Q l c ⟨ws, many, tk, ts, to, told, tnew, td⟩) (pt_grace th sl gn cl gat gret T S K G Q l c { m with ws := ws }) := by
  unfold pt_grace
  try unfold lf
  repeat' (first | exact .bad | exact .leaf rfl | exact .leaf (pre := [_]) rfl | refine .b ?_ ?_ | refine .cs ?_)
theorem sx_grace (x : List Atom) (r : Nat × List Atom) (m : MS) (h : (so_grace x).get = some r) : ∃ n, (so_grace (setM x m)).get = some (r.1, setM r.2 n) := by
  unfold so_grace at h
  split at h
  · rename_i cT cS cK cG cQ th sl gn cl no gown gat gret glater T S K G Q l c tk ts to told tnew td many ws
    obtain ⟨hg, h2⟩ := get_br h
    obtain ⟨n, hn⟩ := (sm_grace th sl gn cl gat gret T S K G Q l c ws many tk ts to told tnew td m).get h2
    refine ⟨n, ?_⟩
    refine Eq.trans ?_ hn
    exact brI (of_decide_eq_true hg) rfl
  · cases h
theorem sm_keys (th : Int) (sl : Int) (gn : Int) (a : Int) (cl : Bool) (T : Int) (S : Int) (K : Int) (G : Int) (Q : Int) (l : Nat) (c : Nat) (ws : List Int) (many tk ts to told tnew : Int) (td : Bool) (m : MS) : SameT (pt_keys th sl gn a cl T S K G Q l c ⟨ws, many, tk, ts, to, told, tnew, td⟩) (pt_keys th sl gn a cl T S K G Q l c { m with ws := ws }) := by
  unfold pt_keys
  try unfold lf
  repeat' (first | exact .bad | exact .leaf rfl | exact .leaf (pre := [_]) rfl | refine .b ?_ ?_ | refine .cs ?_)
theorem sx_keys (x : List Atom) (r : Nat × List Atom) (m : MS) (h : (so_keys x).get = some r) : ∃ n, (so_keys (setM x m)).get = some (r.1, setM r.2 n) := by
  unfold so_keys at h
  split at h
  · rename_i cT cS cK cG cQ th sl gn a cl no cn cbut cbelow T S K G Q l c tk ts to told tnew td many ws
    obtain ⟨hg, h2⟩ := get_br h
    obtain ⟨n, hn⟩ := (sm_keys th sl gn a cl T S K G Q l c ws many tk ts to told tnew td m).get h2
    refine ⟨n, ?_⟩
    refine Eq.trans ?_ hn
    exact brI (of_decide_eq_true hg) rfl
  · cases h
theorem sm_unmark (th : Int) (sl : Int) (gn : Int) (a : Int) (cl : Bool) (w : Int) (T : Int) (S : Int) (K : Int) (G : Int) (Q : Int) (l : Nat) (c : Nat) (ws : List Int) (many tk ts to told tnew : Int) (td : Bool) (m : MS) : SameT (pt_unmark th sl gn a cl w T S K G Q l c ⟨ws, many, tk, ts, to, told, tnew, td⟩) (pt_unmark th sl gn a cl w T S K G Q l c { m with ws := ws }) := by
  unfold pt_unmark
  try unfold lf
  repeat' (first | exact .bad | exact .leaf rfl | exact .leaf (pre := [_]) rfl | refine .b ?_ ?_ | refine .cs ?_)
theorem sx_unmark (x : List Atom) (r : Nat × List Atom) (m : MS) (h : (so_unmark x).get = some r) : ∃ n, (so_unmark (setM x m)).get = some (r.1, setM r.2 n) := by
  unfold so_unmark at h
  split at h
  · rename_i cT cS cK cG cQ th sl gn a cl w no cn cbut cbelow T S K G Q l c tk ts to told tnew td many ws
    obtain ⟨hg, h2⟩ := get_br h
    obtain ⟨n, hn⟩ := (sm_unmark th sl gn a cl w T S K G Q l c ws many tk ts to told tnew td m).get h2
    refine ⟨n, ?_⟩
    refine Eq.trans ?_ hn
    exact brI (of_decide_eq_true hg) rfl
  · cases h
theorem sm_past (th : Int) (sl : Int) (gn : Int) (cl : Bool) (T : Int) (S : Int) (K : Int) (G : Int) (Q : Int) (l : Nat) (c : Nat) (ws : List Int) (many tk ts to told tnew : Int) (td : Bool) (m : MS) : SameT (pt_past th sl gn cl T S K G Q l c ⟨ws, many, tk, ts, to, told, tnew, td⟩) (pt_past th sl gn cl T S K G Q l c { m with ws := ws }) := by
  unfold pt_past
  try unfold lf
  repeat' (first | exact .bad | exact .leaf rfl | exact .leaf (pre := [_]) rfl | refine .b ?_ ?_ | refine .cs ?_)
theorem sx_past (x : List Atom) (r : Nat × List Atom) (m : MS) (h : (so_past x).get = some r) : ∃ n, (so_past (setM x m)).get = some (r.1, setM r.2 n) := by
  unfold so_past at h
  split at h
  · rename_i cT cS cK cG cQ th sl gn cl no T S K G Q l c tk ts to told tnew td many ws
    obtain ⟨hg, h2⟩ := get_br h
    obtain ⟨n, hn⟩ := (sm_past th sl gn cl T S K G Q l c ws many tk ts to told tnew td m).get h2
    refine ⟨n, ?_⟩
    refine Eq.trans ?_ hn
    exact brI (of_decide_eq_true hg) rfl
  · cases h
theorem sm_others (th : Int) (sl : Int) (gn : Int) (a : Int) (cl : Bool) (n : Int) (T : Int) (S : Int) (K : Int) (G : Int) (Q : Int) (l : Nat) (c : Nat) (ws : List Int) (many tk ts to told tnew : Int) (td : Bool) (m : MS) : SameT (pt_others th sl gn a cl n T S K G Q l c ⟨ws, many, tk, ts, to, told, tnew, td⟩) (pt_others th sl gn a cl n T S K G Q l c { m with ws := ws }) := by
  unfold pt_others
  try unfold lf
  repeat' (first | exact .bad | exact .leaf rfl | exact .leaf (pre := [_]) rfl | refine .b ?_ ?_ | refine .cs ?_)
theorem sx_others (x : List Atom) (r : Nat × List Atom) (m : MS) (h : (so_others x).get = some r) : ∃ n, (so_others (setM x m)).get = some (r.1, setM r.2 n) := by
  unfold so_others at h
  split at h
  · rename_i cT cS cK cG cQ th sl gn a cl n no cn cbut cbelow T S K G Q l c tk ts to told tnew td many ws
    obtain ⟨hg, h2⟩ := get_br h
    obtain ⟨n, hn⟩ := (sm_others th sl gn a cl n T S K G Q l c ws many tk ts to told tnew td m).get h2
    refine ⟨n, ?_⟩
    refine Eq.trans ?_ hn
    exact brI (of_decide_eq_true hg) rfl
  · cases h
theorem sm_part (th : Int) (sl : Int) (gn : Int) (a : Int) (cl : Bool) (w : Int) (n : Int) (T : Int) (S : Int) (K : Int) (G : Int) (Q : Int) (l : Nat) (c : Nat) (ws : List Int) (many tk ts to told tnew : Int) (td : Bool) (m : MS) : SameT (pt_part th sl gn a cl w n T S K G Q l c ⟨ws, many, tk, ts, to, told, tnew, td⟩) (pt_part th sl gn a cl w n T S K G Q l c { m with ws := ws }) := by
  unfold pt_part
  try unfold lf
  repeat' (first | exact .bad | exact .leaf rfl | exact .leaf (pre := [_]) rfl | refine .b ?_ ?_ | refine .cs ?_)
theorem sx_part (x : List Atom) (r : Nat × List Atom) (m : MS) (h : (so_part x).get = some r) : ∃ n, (so_part (setM x m)).get = some (r.1, setM r.2 n) := by
  unfold so_part at h
  split at h
  · rename_i cT cS cK cG cQ th sl gn a cl w n no cn cbut cbelow T S K G Q l c tk ts to told tnew td many ws
    obtain ⟨hg, h2⟩ := get_br h
    obtain ⟨n, hn⟩ := (sm_part th sl gn a cl w n T S K G Q l c ws many tk ts to told tnew td m).get h2
    refine ⟨n, ?_⟩
    refine Eq.trans ?_ hn
    exact brI (of_decide_eq_true hg) rfl
  · cases h
theorem sm_close (th : Int) (sl : Int) (gn : Int) (cl : Bool) (T : Int) (S : Int) (K : Int) (G : Int) (Q : Int) (l : Nat) (c : Nat) (ws : List Int) (many tk ts to told tnew : Int) (td : Bool) (m : MS) : SameT (pt_close th sl gn cl T S K G Q l c ⟨ws, many, tk, ts, to, told, tnew, td⟩) (pt_close th sl gn cl T S K G Q l c { m with ws := ws }) := by
  unfold pt_close
  try unfold lf
  repeat' (first | exact .bad | exact .leaf rfl | exact .leaf (pre := [_]) rfl | refine .b ?_ ?_ | refine .cs ?_)
theorem sx_close (x : List Atom) (r : Nat × List Atom) (m : MS) (h : (so_close x).get = some r) : ∃ n, (so_close (setM x m)).get = some (r.1, setM r.2 n) := by
  unfold so_close at h
  split at h
  · rename_i cT cS cK cG cQ th sl gn cl no T S K G Q l c tk ts to told tnew td many ws
    obtain ⟨hg, h2⟩ := get_br h
    obtain ⟨n, hn⟩ := (sm_close th sl gn cl T S K G Q l c ws many tk ts to told tnew td m).get h2
    refine ⟨n, ?_⟩
    refine Eq.trans ?_ hn
    exact brI (of_decide_eq_true hg) rfl
  · cases h
theorem sm_closed (th : Int) (sl : Int) (gn : Int) (cl : Bool) (w : Int) (T : Int) (S : Int) (K : Int) (G : Int) (Q : Int) (l : Nat) (c : Nat) (ws : List Int) (many tk ts to told tnew : Int) (td : Bool) (m : MS) : SameT (pt_closed th sl gn cl w T S K G Q l c ⟨ws, many, tk, ts, to, told, tnew, td⟩) (pt_closed th sl gn cl w T S K G Q l c { m with ws := ws }) := by
  unfold pt_closed
  try unfold lf
  repeat' (first | exact .bad | exact .leaf rfl | exact .leaf (pre := [_]) rfl | refine .b ?_ ?_ | refine .cs ?_)
theorem sx_closed (x : List Atom) (r : Nat × List Atom) (m : MS) (h : (so_closed x).get = some r) : ∃ n, (so_closed (setM x m)).get = some (r.1, setM r.2 n) := by
  unfold so_closed at h
  split at h
  · rename_i cT cS cK cG cQ th sl gn cl w no T S K G Q l c tk ts to told tnew td many ws
    obtain ⟨hg, h2⟩ := get_br h
    obtain ⟨n, hn⟩ := (sm_closed th sl gn cl w T S K G Q l c ws many tk ts to told tnew td m).get h2
    refine ⟨n, ?_⟩
    refine Eq.trans ?_ hn
    exact brI (of_decide_eq_true hg) rfl
  · cases h
theorem sm_nought (th : Int) (sl : Int) (gn : Int) (cl : Bool) (T : Int) (S : Int) (K : Int) (G : Int) (Q : Int) (l : Nat) (c : Nat) (ws : List Int) (many tk ts to told tnew : Int) (td : Bool) (m : MS) : SameT (pt_nought th sl gn cl T S K G Q l c ⟨ws, many, tk, ts, to, told, tnew, td⟩) (pt_nought th sl gn cl T S K G Q l c { m with ws := ws }) := by
  unfold pt_nought
  try unfold lf
  repeat' (first | exact .bad | exact .leaf rfl | exact .leaf (pre := [_]) rfl | refine .b ?_ ?_ | refine .cs ?_)
theorem sx_nought (x : List Atom) (r : Nat × List Atom) (m : MS) (h : (so_nought x).get = some r) : ∃ n, (so_nought (setM x m)).get = some (r.1, setM r.2 n) := by
  unfold so_nought at h
  split at h
  · rename_i cT cS cK cG cQ th sl gn cl no T S K G Q l c tk ts to told tnew td many ws
    obtain ⟨hg, h2⟩ := get_br h
    obtain ⟨n, hn⟩ := (sm_nought th sl gn cl T S K G Q l c ws many tk ts to told tnew td m).get h2
    refine ⟨n, ?_⟩
    refine Eq.trans ?_ hn
    exact brI (of_decide_eq_true hg) rfl
  · cases h
theorem sm_free (th : Int) (sl : Int) (gn : Int) (cl : Bool) (T : Int) (S : Int) (K : Int) (G : Int) (Q : Int) (l : Nat) (c : Nat) (ws : List Int) (many tk ts to told tnew : Int) (td : Bool) (m : MS) : SameT (pt_free th sl gn cl T S K G Q l c ⟨ws, many, tk, ts, to, told, tnew, td⟩) (pt_free th sl gn cl T S K G Q l c { m with ws := ws }) := by
  unfold pt_free
  try unfold lf
  repeat' (first | exact .bad | exact .leaf rfl | exact .leaf (pre := [_]) rfl | refine .b ?_ ?_ | refine .cs ?_)
theorem sx_free (x : List Atom) (r : Nat × List Atom) (m : MS) (h : (so_free x).get = some r) : ∃ n, (so_free (setM x m)).get = some (r.1, setM r.2 n) := by
  unfold so_free at h
  split at h
  · rename_i cT cS cK cG cQ th sl gn cl no T S K G Q l c tk ts to told tnew td many ws
    obtain ⟨hg, h2⟩ := get_br h
    obtain ⟨n, hn⟩ := (sm_free th sl gn cl T S K G Q l c ws many tk ts to told tnew td m).get h2
    refine ⟨n, ?_⟩
    refine Eq.trans ?_ hn
    exact brI (of_decide_eq_true hg) rfl
  · cases h
theorem sm_later (th : Int) (sl : Int) (gn : Int) (cl : Bool) (ls : Int) (llooked : Bool) (T : Int) (S : Int) (K : Int) (G : Int) (Q : Int) (l : Nat) (c : Nat) (ws : List Int) (many tk ts to told tnew : Int) (td : Bool) (m : MS) : SameT (pt_later th sl gn cl ls llooked T S K G Q l c ⟨ws, many, tk, ts, to, told, tnew, td⟩) (pt_later th sl gn cl ls llooked T S K G Q l c { m with ws := ws }) := by
  unfold pt_later
  try unfold lf
  repeat' (first | exact .bad | exact .leaf rfl | exact .leaf (pre := [_]) rfl | refine .b ?_ ?_ | refine .cs ?_)
theorem sx_later (x : List Atom) (r : Nat × List Atom) (m : MS) (h : (so_later x).get = some r) : ∃ n, (so_later (setM x m)).get = some (r.1, setM r.2 n) := by
  unfold so_later at h
  split at h
  · rename_i cT cS cK cG cQ th sl gn cl no lslot ls lstate llooked lend T S K G Q l c tk ts to told tnew td many ws
    obtain ⟨hg, h2⟩ := get_br h
    obtain ⟨n, hn⟩ := (sm_later th sl gn cl ls llooked T S K G Q l c ws many tk ts to told tnew td m).get h2
    refine ⟨n, ?_⟩
    refine Eq.trans ?_ hn
    exact brI (of_decide_eq_true hg) rfl
  · cases h
theorem sm_done (no : Int) (T : Int) (S : Int) (K : Int) (G : Int) (Q : Int) (l : Nat) (c : Nat) (ws : List Int) (many tk ts to told tnew : Int) (td : Bool) (m : MS) : SameT (pt_done no T S K G Q l c ⟨ws, many, tk, ts, to, told, tnew, td⟩) (pt_done no T S K G Q l c { m with ws := ws }) := by
  unfold pt_done
  try unfold lf
  repeat' (first | exact .bad | exact .leaf rfl | exact .leaf (pre := [_]) rfl | refine .b ?_ ?_ | refine .cs ?_)
theorem sx_done (x : List Atom) (r : Nat × List Atom) (m : MS) (h : (so_done x).get = some r) : ∃ n, (so_done (setM x m)).get = some (r.1, setM r.2 n) := by
  unfold so_done at h
  split at h
  · rename_i no T S K G Q l c tk ts to told tnew td many ws
    obtain ⟨n, hn⟩ := (sm_done no T S K G Q l c ws many tk ts to told tnew td m).get h
    exact ⟨n, hn⟩
  · cases h
theorem sx_all {k : Nat} {x : List Atom} {r : Nat × List Atom} (m : MS) (h : stepK (k, x) = some r) : ∃ n, stepK (k, setM x m) = some (r.1, setM r.2 n) := by
  unfold stepK at h
  match k, h with
  | 0, h => exact sx_enter x r m h
  | 1, h => exact sx_number x r m h
  | 2, h => exact sx_agedL x r m h
  | 3, h => exact sx_agedS x r m h
  | 4, h => exact sx_die x r m h
  | 5, h => exact sx_dead x r m h
  | 6, h => exact sx_tick x r m h
  | 7, h => exact sx_note x r m h
  | 8, h => exact sx_retired x r m h
  | 9, h => exact sx_grace x r m h
  | 10, h => exact sx_keys x r m h
  | 11, h => exact sx_unmark x r m h
  | 12, h => exact sx_past x r m h
  | 13, h => exact sx_others x r m h
  | 14, h => exact sx_part x r m h
  | 15, h => exact sx_close x r m h
  | 16, h => exact sx_closed x r m h
  | 17, h => exact sx_nought x r m h
  | 18, h => exact sx_free x r m h
  | 19, h => exact sx_later x r m h
  | 20, h => exact sx_done x r m h
  | n + 21, h => simp [soL, nthD] at h
end Go.Proofs.YtfccbghmagohaaaGreat.Bound
