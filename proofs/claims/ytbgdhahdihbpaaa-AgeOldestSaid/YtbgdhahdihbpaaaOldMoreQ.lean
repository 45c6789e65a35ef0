/- The document's least snapshot of words that were handed in. Conditions stand in the statements. -/
import Derived.Test.YtbgdhahdihbpaaaPackC
import Derived.Test.YtbgdhahdihbpaaaGivenQ
namespace Go.Proofs.Ytbgdhahdihbpaaa.PAgeOldest
open Go.RowKit Go.IntWalk Go.Proofs.Ytbgdhahdihbpaaa.Own Go.Proofs.Ytbgdhahdihbpaaa.Model Go.Proofs.Ytbgdhahdihbpaaa.Store Go.Proofs.Ytbgdhahdihbpaaa.Status Go.Proofs.Ytbgdhahdihbpaaa.Age Go.Proofs.Ytbgdhahdihbpaaa.Open
theorem refoldest_n (c : Cfg) (ws : List Int) (n : Nat) (b : Addr) (cap : Nat) (W : World) (hnn : ws.length = n) (h : (Mem.start c ws).Ok) (hs : Lies W b ws) (hcap : n ≤ cap) :
    Calls Try.prog 19 #[cfgV c, .slice (some b) n cap] W fun e W' => e = .returned (.tuple #[.int .u64 (oldN (Mem.start c ws) c.S.toNat).1, .bool (oldN (Mem.start c ws) c.S.toNat).2]) ∧ Below W.heap.size W W' := by
  subst hnn
  exact refoldest_c c ws b cap W h hs hcap
theorem readsRow {W : World} {A : Option Addr} {n cap : Nat} {zs : List Int} (h : IsRow .u64 W A n cap zs) : ∃ ws : List Int, ws.length = n ∧ n ≤ cap ∧ Go.Proofs.YtbgdhahdihbpaaaW.PrintWords.Kd.C (Go.Proofs.YtbgdhahdihbpaaaW.PrintWords.Kd.int .u64) W A ws.length ws := by
  rcases h with ⟨rfl, rfl, rfl, rfl⟩ | ⟨b, rfl, h1, h2, h3, h4, h5⟩
  · exact ⟨[], rfl, Nat.le_refl _, rfl, by simp, fun h => by simp at h⟩
  · have hl : (zs.take n).length = n := by simp; omega
    refine ⟨zs.take n, hl, h1, rfl, by rw [hl]; unfold maxLen at h2; omega, fun _ => ⟨b, rfl, ?_⟩⟩
    intro j p hp
    refine ⟨[.int .u64 p], rfl, rfl, ?_⟩
    intro i u hu
    have hj : j < (zs.take n).length := by
      rcases Nat.lt_or_ge j (zs.take n).length with hl | hl
      · exact hl
      · rw [List.getElem?_eq_none hl] at hp; cases hp
    have hj2 : j < zs.length := by omega
    rw [List.getElem?_eq_getElem hj, List.getElem_take] at hp
    cases hp
    match i, hu with
    | 0, hu =>
      cases hu
      show W.cell? (b.add (j * 1 + 0)) = _
      rw [show j * 1 + 0 = j by omega, h4 j hj2]
      simp [List.getD_eq_getElem?_getD, List.getElem?_eq_getElem hj2]
theorem refoldest_none (c : Cfg) (n cap : Nat) (A : Option Addr) (zs : List Int) (W : World) (h : ¬ (c.Rt ∧ (n : Int) = c.len)) (hz : IsRow .u64 W A n cap zs) :
    Calls Try.prog 19 #[cfgV c, .slice A n cap] W fun e W' => e = .returned (.tuple #[.int .u64 0, .bool false]) ∧ Below W.heap.size W W' := by
  obtain ⟨ws, rfl, hcap, hC⟩ := readsRow hz
  refine umpireref15_Oldest.calls 100 _ _ _ _ _ _ _ _ _ _ W hC hcap ?_
  unfold umpireref15_Oldest.f
  rw [refright_is]
  by_cases hr : c.Rt
  · have hrt' : ChartMath.Rt c.T c.S c.K c.G c.Q := hr
    simp only [Option.bind_some, hrt', decide_true, if_true]
    unfold umpireref05_Len.f
    rw [show (100 : Nat) = 60 + 40 by rfl, spots_is]
    simp only [Option.bind_some]
    rw [row_len]
    (try simp only [Option.bind_some])
    rw [show (60 : Nat) + 40 = 99 + 1 by rfl]
    unfold umpireref15_Oldest.j0
    rw [if_pos hrt']
    change (if ((ws.length : Int) != ChartMath.lenOf c.T c.S c.K) = true then some (0, false) else _) = _
    rw [if_pos]
    simp only [bne_iff_ne, ne_eq]
    exact fun e => h ⟨hr, e⟩
  · have hrt' : ¬ ChartMath.Rt c.T c.S c.K c.G c.Q := hr
    simp only [Option.bind_some, hrt', decide_false]
    rw [if_neg (by simp), show (100 : Nat) = 99 + 1 by rfl]
    rfl
end Go.Proofs.Ytbgdhahdihbpaaa.PAgeOldest
