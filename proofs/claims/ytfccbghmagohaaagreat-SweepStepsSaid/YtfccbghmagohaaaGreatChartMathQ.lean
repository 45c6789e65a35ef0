/- Where the spots of a chart stand, in plain numbers: the cell of a spot and the spot of a cell undo each other. Condition: the numbers of threads, slots and keys are not negative. -/
namespace Go.Proofs.YtfccbghmagohaaaGreat.ChartMath

def Rt (T S K G Q : Int) : Prop := 1 ≤ T ∧ T ≤ 8 ∧ 1 ≤ S ∧ S ≤ 12 ∧ 1 ≤ K ∧ K ≤ 8 ∧ 0 ≤ G ∧ G ≤ 1073741823 ∧ Q ≤ 1099511627775
instance (T S K G Q : Int) : Decidable (Rt T S K G Q) := by unfold Rt; infer_instance

def lenOf (T S K : Int) : Int := 2 + T + 4 * S + K
def cellOf (T S K kind of : Int) : Int :=
  if kind = 1 ∧ of = 0 then 0 else if kind = 2 ∧ of = 0 then 1
  else if kind = 3 ∧ 0 ≤ of ∧ of < T then 2 + of
  else if 4 ≤ kind ∧ kind ≤ 7 ∧ 0 ≤ of ∧ of < S then 2 + T + (kind - 4) + 4 * of
  else if kind = 8 ∧ 0 ≤ of ∧ of < K then 2 + T + 4 * S + of
  else -1
def kindAt (T S i : Int) : Int := if i = 0 then 1 else if i = 1 then 2 else if i < 2 + T then 3 else if i < 2 + T + 4 * S then 4 + (i - 2 - T) % 4 else 8
def ofAt (T S i : Int) : Int := if i < 2 then 0 else if i < 2 + T then i - 2 else if i < 2 + T + 4 * S then (i - 2 - T) / 4 else i - 2 - T - 4 * S

theorem cell_at {T S K i : Int} (h0 : 0 ≤ i) (h1 : i < lenOf T S K) : cellOf T S K (kindAt T S i) (ofAt T S i) = i := by
  unfold lenOf at h1
  unfold kindAt ofAt
  by_cases a : i = 0
  · subst a; simp [cellOf]
  by_cases b : i = 1
  · subst b; simp [cellOf]
  rw [if_neg a, if_neg b, if_neg (show ¬ i < 2 by omega)]
  by_cases c : i < 2 + T
  · rw [if_pos c, if_pos c]; unfold cellOf
    rw [if_neg (by omega), if_neg (by omega), if_pos (by omega)]; omega
  rw [if_neg c, if_neg c]
  by_cases d : i < 2 + T + 4 * S
  · rw [if_pos d, if_pos d]; unfold cellOf
    rw [if_neg (by omega), if_neg (by omega), if_neg (by omega), if_pos (by omega)]; omega
  rw [if_neg d, if_neg d]; unfold cellOf
  rw [if_neg (by omega), if_neg (by omega), if_neg (by omega), if_neg (by omega), if_pos (by omega)]; omega

theorem at_cell {T S K kind of : Int} (hT : 0 ≤ T) (hS : 0 ≤ S) (hK : 0 ≤ K) (h : 0 ≤ cellOf T S K kind of) :
    cellOf T S K kind of < lenOf T S K ∧ kindAt T S (cellOf T S K kind of) = kind ∧ ofAt T S (cellOf T S K kind of) = of := by
  unfold cellOf at h ⊢
  unfold lenOf
  by_cases a : kind = 1 ∧ of = 0
  · rw [if_pos a]; obtain ⟨rfl, rfl⟩ := a; exact ⟨by omega, by simp [kindAt], by simp [ofAt]⟩
  rw [if_neg a] at h ⊢
  by_cases b : kind = 2 ∧ of = 0
  · rw [if_pos b]; obtain ⟨rfl, rfl⟩ := b; exact ⟨by omega, by simp [kindAt], by simp [ofAt]⟩
  rw [if_neg b] at h ⊢
  by_cases c : kind = 3 ∧ 0 ≤ of ∧ of < T
  · rw [if_pos c]; unfold kindAt ofAt
    rw [if_neg (by omega), if_neg (by omega), if_pos (by omega), if_neg (by omega), if_pos (by omega)]; omega
  rw [if_neg c] at h ⊢
  by_cases d : 4 ≤ kind ∧ kind ≤ 7 ∧ 0 ≤ of ∧ of < S
  · rw [if_pos d]; unfold kindAt ofAt
    rw [if_neg (by omega), if_neg (by omega), if_neg (by omega), if_pos (by omega), if_neg (by omega), if_neg (by omega), if_pos (by omega)]; omega
  rw [if_neg d] at h ⊢
  by_cases e : kind = 8 ∧ 0 ≤ of ∧ of < K
  · rw [if_pos e]; unfold kindAt ofAt
    rw [if_neg (by omega), if_neg (by omega), if_neg (by omega), if_neg (by omega), if_neg (by omega), if_neg (by omega), if_neg (by omega)]; omega
  rw [if_neg e] at h
  omega

theorem cell_low {T S K kind of : Int} (hT : 0 ≤ T) (hS : 0 ≤ S) : -1 ≤ cellOf T S K kind of := by
  unfold cellOf; repeat' split
  all_goals omega

/-- Where spots of a kind stand: from, many, apart. -/
def ofv (T S K kind : Int) : Int × Int × Int :=
  if kind = 1 then (0, 1, 1) else if kind = 2 then (1, 1, 1) else if kind = 3 then (2, T, 1)
  else if 4 ≤ kind ∧ kind ≤ 7 then (2 + T + kind - 4, S, 4) else if kind = 8 then (2 + T + 4 * S, K, 1) else (0, 0, 0)

theorem cell_ofv {T S K kind of : Int} (hT : 1 ≤ T) (hS : 1 ≤ S) (hK : 1 ≤ K) :
    cellOf T S K kind of = if (ofv T S K kind).1 = 0 ∧ (ofv T S K kind).2.1 = 0 ∧ (ofv T S K kind).2.2 = 0 then -1 else if of < 0 then -1 else if of ≥ (ofv T S K kind).2.1 then -1 else (ofv T S K kind).1 + of * (ofv T S K kind).2.2 := by
  unfold ofv
  by_cases a : kind = 1
  · subst a; rw [if_pos rfl]; unfold cellOf; dsimp only; repeat' split
    all_goals omega
  rw [if_neg a]
  by_cases b : kind = 2
  · subst b; rw [if_pos rfl]; unfold cellOf; dsimp only; repeat' split
    all_goals omega
  rw [if_neg b]
  by_cases c : kind = 3
  · subst c; rw [if_pos rfl]; unfold cellOf; dsimp only; repeat' split
    all_goals omega
  rw [if_neg c]
  by_cases d : 4 ≤ kind ∧ kind ≤ 7
  · rw [if_pos d]; unfold cellOf; dsimp only; repeat' split
    all_goals omega
  rw [if_neg d]
  by_cases e : kind = 8
  · subst e; rw [if_pos rfl]; unfold cellOf; dsimp only; repeat' split
    all_goals omega
  rw [if_neg e]; unfold cellOf; dsimp only; repeat' split
  all_goals omega

/-- What the loop of 'At' reckons at the right kind. -/
theorem at_div {T S K i : Int} (h0 : 0 ≤ i) (h1 : i < lenOf T S K) :
    Int.tdiv (i - (ofv T S K (kindAt T S i)).1) (ofv T S K (kindAt T S i)).2.2 = ofAt T S i ∧ 1 ≤ kindAt T S i ∧ kindAt T S i ≤ 8 := by
  unfold lenOf at h1
  unfold kindAt ofAt
  by_cases a : i = 0
  · subst a; simp [ofv]
  by_cases b : i = 1
  · subst b; simp [ofv]
  rw [if_neg a, if_neg b, if_neg (show ¬ i < 2 by omega)]
  by_cases c : i < 2 + T
  · rw [if_pos c, if_pos c]; simp [ofv]
  rw [if_neg c, if_neg c]
  by_cases d : i < 2 + T + 4 * S
  · rw [if_pos d, if_pos d]; unfold ofv
    rw [if_neg (by omega), if_neg (by omega), if_neg (by omega), if_pos (by omega)]
    refine ⟨?_, by omega, by omega⟩
    dsimp only
    rw [Int.tdiv_eq_ediv_of_nonneg (by omega)]; omega
  rw [if_neg d, if_neg d]; simp [ofv]; omega

theorem ofv_range {T S K kind : Int} (hT : 1 ≤ T ∧ T ≤ 8) (hS : 1 ≤ S ∧ S ≤ 12) (hK : 1 ≤ K ∧ K ≤ 8) :
    0 ≤ (ofv T S K kind).1 ∧ (ofv T S K kind).1 ≤ 60 ∧ 0 ≤ (ofv T S K kind).2.1 ∧ (ofv T S K kind).2.1 ≤ 12 ∧ 0 ≤ (ofv T S K kind).2.2 ∧ (ofv T S K kind).2.2 ≤ 4 ∧ (1 ≤ kind → kind ≤ 8 → 1 ≤ (ofv T S K kind).2.2) := by
  unfold ofv; repeat' split
  all_goals (dsimp only; omega)

end Go.Proofs.YtfccbghmagohaaaGreat.ChartMath
