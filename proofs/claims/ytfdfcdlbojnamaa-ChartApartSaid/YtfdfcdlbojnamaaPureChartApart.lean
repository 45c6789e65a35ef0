/- The law ChartApart, walked: it returns true at every config and every two pairs. No condition. -/
import Derived.Test.YtfdfcdlbojnamaaChartApartBase
import Derived.Deep.RegionHeld3
import Derived.WalkSpells
import Derived.ChangeKeysEq
import Derived.WideLaws
namespace Go.Proofs.Ytfdfcdlbojnamaa.Pure
open Go.RowKit Go.IntWalk Go.Proofs.Ytfdfcdlbojnamaa.ChartMath Go.Proofs.Ytfdfcdlbojnamaa.PChartApart

theorem info3 : ∃ i, Try.prog.info? 3 = some i := by
  have h : (Try.prog.info? 3).isSome = true := by kernel_rfl
  exact Option.isSome_iff_exists.1 h
theorem cells3 : Try.prog.cellsOf 3 = 1 := by kernel_rfl
/-- Two pairs are the same just if both numbers are. -/
theorem eqA39 (d : Nat) (w : World) (x0 y0 x1 y1 : Int) :
    (Op.equalIn (d + 2) 39 (.agg #[.int .i64 x0, .int .i64 x1]) (.agg #[.int .i64 y0, .int .i64 y1])).run Try.prog w = .ok (x0 == y0 && x1 == y1) w := by
  obtain ⟨i, hi⟩ := info3
  rw [run_equalIn_array (w := w) (d + 1) _ _ Try.underlying39 hi, cells3]
  have hu := Try.underlying3
  simp only [List.range_succ, List.range_zero, List.nil_append, List.cons_append]
  simp only [Op.eqItems, Sem.run_bind]
  go_simp
  by_cases h : x0 = y0 <;> by_cases k : x1 = y1 <;> simp [h, k]
attribute [local go_sem high] eqA39

theorem bcell {W w1 : World} (hb : Below W.heap.size W w1) : (∀ b o, b < W.heap.size → w1.cell? ⟨b, o, none⟩ = W.cell? ⟨b, o, none⟩) ∧ (∀ b o, b < W.heap.size → w1.frozen? ⟨b, o, none⟩ = W.frozen? ⟨b, o, none⟩) :=
  ⟨fun b o h => hb.cell (p := ⟨b, o, none⟩) h, fun b o h => hb.frozen (p := ⟨b, o, none⟩) h⟩

def cellC (T S K G Q kind of : Int) : Int := if Rt T S K G Q then cellOf T S K kind of else -1
theorem cell_c (k : Nat) (T S K G Q kind of : Int) : chart_Cell.f (k + 2) T S K G Q kind of = some (cellC T S K G Q kind of) := cell_is k T S K G Q kind of

theorem same_cell (T S K G Q a0 a1 b0 b1 : Int) (ha : 0 ≤ cellC T S K G Q a0 a1) (hb : 0 ≤ cellC T S K G Q b0 b1) :
    ((cellC T S K G Q a0 a1 == cellC T S K G Q b0 b1) == (a0 == b0 && a1 == b1)) = true := by
  by_cases h : Rt T S K G Q
  · unfold cellC at ha hb ⊢
    rw [if_pos h] at ha hb ⊢; rw [if_pos h]
    obtain ⟨t1, t2, s1, s2, k1, k2, _⟩ := h
    have qa := at_cell (T := T) (S := S) (K := K) (kind := a0) (of := a1) (by omega) (by omega) (by omega) ha
    have qb := at_cell (T := T) (S := S) (K := K) (kind := b0) (of := b1) (by omega) (by omega) (by omega) hb
    by_cases e : cellOf T S K a0 a1 = cellOf T S K b0 b1
    · rw [e] at qa
      have e0 : a0 = b0 := qa.2.1.symm.trans qb.2.1
      have e1 : a1 = b1 := qa.2.2.symm.trans qb.2.2
      simp [e0, e1]
    · have n : ¬ (a0 = b0 ∧ a1 = b1) := fun ⟨x, y⟩ => e (by rw [x, y])
      have f1 : (cellOf T S K a0 a1 == cellOf T S K b0 b1) = false := by simpa using e
      have f2 : (a0 == b0 && a1 == b1) = false := by
        by_cases x : a0 = b0 <;> by_cases y : a1 = b1 <;> simp [x, y]
        exact n ⟨x, y⟩
      rw [f1, f2]; rfl
  · unfold cellC at ha; rw [if_neg h] at ha; omega

theorem ret_bool {a b : Bool} (h : a = b) : Ending.returned (.bool a) = .returned (.bool b) := by rw [h]

theorem apart_walk (W : World) (T S K G Q a0 a1 b0 b1 : Int) :
    Calls Try.prog 7 #[.agg #[.int .i64 T, .int .i64 S, .int .i64 K, .int .i64 G, .int .u64 Q], .agg #[.int .i64 a0, .int .i64 a1], .agg #[.int .i64 b0, .int .i64 b1]] W
      fun e w' => e = .returned (.bool true) ∧ Below W.heap.size W w' := by
  go_enter Try.func7, Try.ntmps7
  go_wp2_with fail
  go_region_held3 (fun w' => w'.cell? ⟨W.heap.size, 0, none⟩ = some (.int .i64 T) ∧ w'.cell? ⟨W.heap.size, 1, none⟩ = some (.int .i64 S) ∧ w'.cell? ⟨W.heap.size, 2, none⟩ = some (.int .i64 K) ∧ w'.cell? ⟨W.heap.size, 3, none⟩ = some (.int .i64 G) ∧ w'.cell? ⟨W.heap.size, 4, none⟩ = some (.int .u64 Q)
      ∧ w'.cell? ⟨W.heap.size + 1, 0, none⟩ = some (.int .i64 a0) ∧ w'.cell? ⟨W.heap.size + 1, 1, none⟩ = some (.int .i64 a1) ∧ w'.cell? ⟨W.heap.size + 1 + 1, 0, none⟩ = some (.int .i64 b0) ∧ w'.cell? ⟨W.heap.size + 1 + 1, 1, none⟩ = some (.int .i64 b1))
    (first | (go_simp; done) | (go_keep; done))
    (first | (go_at_call 14; refine (chart_Cell.calls 20 _ _ _ _ _ _ _ _ _ (cell_c 18 _ _ _ _ _ _ _)).mono ?_; rintro e w' ⟨rfl, hb⟩; obtain ⟨hc, hf⟩ := bcell hb; have hz2 : W.heap.size + 1 + 1 < w'.heap.size := (by have := hb.size; (try simp at this); omega); have hz1 : W.heap.size + 1 < w'.heap.size := (by omega); have hz0 : W.heap.size < w'.heap.size := (by omega)))
  go_wp2_with (go_at_call 9; refine (umpirelaw05_alive.calls 20 true _ (alive_is 6)).mono ?_; rintro e w' ⟨rfl, hb⟩; obtain ⟨hc, hf⟩ := bcell hb)
  · rename_i W1 hb1 hc1 hf1 z2 z1 z0 W2 hb2 hc2 hf2 held h1 h2
    have fin := same_cell T S K G Q a0 a1 b0 b1 (by omega) (by omega)
    clear hc hf hc1 hf1 hc2 hf2 held
    go_ret
    refine ⟨ret_bool (by rw [fin]; simp), ?_⟩
    exact ((((((Below.refl _ _).alloc (Nat.le_refl _) _).alloc (by simp) _).alloc (by simp; omega) _).drew.trans (hb1.mono (by simp; omega))).trans (hb2.mono (by omega))).trans (hb.mono (by omega))
  · rename_i W1 hb1 hc1 hf1 z2 z1 z0 W2 hb2 hc2 hf2 held h1 h2
    clear hc hf hc1 hf1 hc2 hf2 held
    go_ret
    refine ⟨rfl, ?_⟩
    exact ((((((Below.refl _ _).alloc (Nat.le_refl _) _).alloc (by simp) _).alloc (by simp; omega) _).drew.trans (hb1.mono (by simp; omega))).trans (hb2.mono (by omega))).trans (hb.mono (by omega))
  · rename_i W1 hb1 hc1 hf1 z2 z1 z0 W2 hb2 hc2 hf2 held h1
    clear hc hf hc1 hf1 hc2 hf2 held
    go_ret
    refine ⟨rfl, ?_⟩
    exact ((((((Below.refl _ _).alloc (Nat.le_refl _) _).alloc (by simp) _).alloc (by simp; omega) _).drew.trans (hb1.mono (by simp; omega))).trans (hb2.mono (by omega))).trans (hb.mono (by omega))

theorem walkChartApart (W : World) (T S K G Q : Int) (_ : (Lit.int .i64 T).wf = true) (_ : (Lit.int .i64 S).wf = true) (_ : (Lit.int .i64 K).wf = true) (_ : (Lit.int .i64 G).wf = true) (_ : (Lit.int .u64 Q).wf = true)
    (a0 a1 : Int) (_ : (Lit.int .i64 a0).wf = true) (_ : (Lit.int .i64 a1).wf = true) (b0 b1 : Int) (_ : (Lit.int .i64 b0).wf = true) (_ : (Lit.int .i64 b1).wf = true) :
    Calls Try.prog 7 #[.agg #[.int .i64 T, .int .i64 S, .int .i64 K, .int .i64 G, .int .u64 Q], .agg #[.int .i64 a0, .int .i64 a1], .agg #[.int .i64 b0, .int .i64 b1]] W fun e w' => e = .returned (.bool true) ∧ Below W.heap.size W w' :=
  apart_walk W T S K G Q a0 a1 b0 b1
end Go.Proofs.Ytfdfcdlbojnamaa.Pure
