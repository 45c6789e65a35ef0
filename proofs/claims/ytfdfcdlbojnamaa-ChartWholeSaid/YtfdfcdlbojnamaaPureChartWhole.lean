/- The law ChartWhole, walked: it returns true at every config. No condition. -/
import Derived.Test.YtfdfcdlbojnamaaChartWholeRef
import Derived.WalkSpells
import Derived.Lib.Hide
import Derived.Deep.RegionHeld3
import Derived.Deep.LoopGhost
namespace Go.Proofs.Ytfdfcdlbojnamaa.Pure
set_option linter.unusedSimpArgs false
set_option linter.unusedVariables false
open Go.RowKit Go.IntWalk Go.Proofs.Ytfdfcdlbojnamaa.ChartMath Go.Proofs.Ytfdfcdlbojnamaa.PChartWhole Go.Proofs.YtfdfcdlbojnamaaW.PrintWords Go.Proofs.YtfdfcdlbojnamaaW.PrintLast Go.Proofs.YtfdfcdlbojnamaaW.PrintMore

theorem eqA34 (d : Nat) (w : World) (x0 y0 : Int) (x1 y1 : Int) :
    (Op.equalIn (d + 2) 34 (.agg #[.int .i64 x0, .int .i64 x1]) (.agg #[.int .i64 y0, .int .i64 y1])).run Try.prog w = .ok (x0 == y0 && (x1 == y1)) w := by
  refine eqA_of Try.underlying34 (by kernel_rfl) ?_
  refine eqf_cons (by rfl) (by go_simp; rfl) (by go_simp; rfl) (by go_simp) ?_
  exact eqf_last (by rfl) (by go_simp; rfl) (by go_simp; rfl) (by go_simp)
attribute [local go_sem high] eqA34

theorem bcell {W w1 : World} (hb : Below W.heap.size W w1) : (∀ b o, b < W.heap.size → w1.cell? ⟨b, o, none⟩ = W.cell? ⟨b, o, none⟩) ∧ (∀ b o, b < W.heap.size → w1.frozen? ⟨b, o, none⟩ = W.frozen? ⟨b, o, none⟩) :=
  ⟨fun b o h => hb.cell (p := ⟨b, o, none⟩) h, fun b o h => hb.frozen (p := ⟨b, o, none⟩) h⟩
theorem ret_bool {a b : Bool} (h : a = b) : Ending.returned (.bool a) = .returned (.bool b) := by rw [h]
def lenC (T S K G Q : Int) : Int := if Rt T S K G Q then lenOf T S K else 0
theorem len_c (k : Nat) (T S K G Q : Int) : chart_Len.f (k + 2) T S K G Q = some (lenC T S K G Q) := len_is k T S K G Q

theorem whole_walk (W : World) (T S K G Q : Int) :
    Calls Try.prog 6 #[.agg #[.int .i64 T, .int .i64 S, .int .i64 K, .int .i64 G, .int .u64 Q]] W
      fun e w' => e = .returned (.bool true) ∧ Below W.heap.size W w' := by
  have hlen : ((row T S K G Q).length : Int) = lenC T S K G Q := row_len T S K G Q
  have HL := Lib.hid hlen
  have hn : (row T S K G Q).length ≤ 66 := by
    have : lenC T S K G Q ≤ 66 := by
      unfold lenC; split
      · rename_i h; obtain ⟨t1, t2, s1, s2, k1, k2, _⟩ := h; unfold lenOf; omega
      · omega
    omega
  clear hlen
  go_enter Try.func6, Try.ntmps6
  go_wp2_with (go_at_call 18; refine (umpireref05_Spots.calls 50 _ _ _ _ _ _ _ (spots_is 10 _ _ _ _ _)).mono ?_; rintro e w1 ⟨v0, rfl, hR, hb1⟩; obtain ⟨A, cap, rfl⟩ := Kd.R_slice hR; obtain ⟨hc1, hf1⟩ := bcell hb1; have hs1 := hb1.size; simp at hs1; have hz : W.heap.size < w1.heap.size := (by omega))
  obtain ⟨n, hnn⟩ : ∃ n, n = (row T S K G Q).length := ⟨_, rfl⟩
  have hC := (Kd.R_reads' hR).2.2
  have HC := Lib.hid hC
  have HN := Lib.hid hnn
  rw [← hnn] at hn
  clear hC hnn hR
  have hcw : ∀ wr, Below w1.heap.size w1 wr → wr.cell? ⟨W.heap.size, 0, none⟩ = some (.int .i64 T) ∧ wr.cell? ⟨W.heap.size, 1, none⟩ = some (.int .i64 S) ∧ wr.cell? ⟨W.heap.size, 2, none⟩ = some (.int .i64 K) ∧ wr.cell? ⟨W.heap.size, 3, none⟩ = some (.int .i64 G) ∧ wr.cell? ⟨W.heap.size, 4, none⟩ = some (.int .u64 Q) := by
    intro wr hb
    obtain ⟨hc, _⟩ := bcell hb
    refine ⟨?_, ?_, ?_, ?_, ?_⟩ <;> (rw [hc _ _ hz, hc1 _ _ (by simp)]; go_simp)
  clear hc1 hf1
  rw [← HN.out]
  go_loopw [10] (fun i wr => ∃ k : Nat, k ≤ n ∧ i = .int .i64 k ∧ Below w1.heap.size w1 wr) (fun i _ => n - (intOf i).toNat)
  case atStart => exact ⟨0, Nat.zero_le _, rfl, Below.refl _ _⟩
  case round =>
    obtain ⟨k, hk, rfl, hbr⟩ := hrel
    obtain ⟨q0, q1, q2, q3, q4⟩ := hcw _ hbr
    have hzr : W.heap.size < wr.heap.size := by have := hbr.size; omega
    by_cases hlt : k < n
    · have hR : Rt T S K G Q := by
        by_cases h : Rt T S K G Q
        · exact h
        · have e := HN.out; unfold row at e; rw [if_neg h] at e; simp at e; omega
      have hl : (k : Int) < lenOf T S K := by
        have e := HL.out; unfold lenC at e; rw [if_pos hR] at e; have := HN.out; omega
      have ha := at_T34 (Kd.C_below HC.out hbr) k (by omega) (by have := HN.out; omega)
      rw [row_get hR (by omega) hl] at ha
      obtain ⟨ad, rfl, e0, e1⟩ := ha
      simp only [Int.toNat_natCast] at e0 e1
      have h0k : (0 : Int) ≤ k := by omega
      have hkn : (k : Int) < n := by omega
      go_wp2_with fail
      have hl2 : (k : Int) ≥ 0 := h0k
      first | (go_region_held3 (fun w' => w'.cell? ⟨W.heap.size, 0, none⟩ = some (.int .i64 T) ∧ w'.cell? ⟨W.heap.size, 1, none⟩ = some (.int .i64 S) ∧ w'.cell? ⟨W.heap.size, 2, none⟩ = some (.int .i64 K) ∧ w'.cell? ⟨W.heap.size, 3, none⟩ = some (.int .i64 G) ∧ w'.cell? ⟨W.heap.size, 4, none⟩ = some (.int .u64 Q)
        ∧ w'.cell? ⟨wr.heap.size, 0, none⟩ = some (.int .i64 (kindAt T S k)) ∧ w'.cell? ⟨wr.heap.size, 1, none⟩ = some (.int .i64 (ofAt T S k)))
        (first | (go_simp; done) | (go_keep; done))
        (first | (go_at_call 16; refine (chart_At.calls 20 _ _ _ _ _ _ (kindAt T S k) (ofAt T S k) _ (by rw [at_is 6, if_pos ⟨hR, h0k, hl⟩])).mono ?_; rintro e w' ⟨rfl, hb⟩; obtain ⟨hc, hf⟩ := bcell hb; have hz1 : wr.heap.size < w'.heap.size := (by have := hb.size; (try simp at this); omega); have hz0 : W.heap.size < w'.heap.size := (by omega)))) | fail
      have hbw : Below w1.heap.size w1 w' := ((hbr.alloc (by have := hbr.size; omega) _).drew).trans (hb.mono (by have := hbr.size; simp; omega))
      clear hb hc hf
      go_wp2
      go_roundw
      case rel => exact ⟨k + 1, by omega, by go_num, hbw⟩
      case measure => simp [intOf]; omega
    · have hkn : (n : Int) ≤ k := by omega
      have hknb : decide ((k : Int) < n) = false := by simp; omega
      go_wp2_with (first
        | (go_at_call 9; refine (umpirelaw05_alive.calls 20 true _ (alive_is 6)).mono ?_; rintro e w' ⟨rfl, hb⟩; obtain ⟨hc, hf⟩ := bcell hb)
        | (go_at_call 12; refine (chart_Len.calls 20 _ _ _ _ _ _ _ (len_c 18 _ _ _ _ _)).mono ?_; rintro e w'' ⟨rfl, hb2⟩; obtain ⟨hc2, hf2⟩ := bcell hb2))
      have hbw : Below W.heap.size W w'' := ((((Below.refl _ _).alloc (Nat.le_refl _) _).trans (hb1.mono (by simp))).trans (hbr.mono (by omega))).trans ((hb.mono (by omega)).trans (hb2.mono (by have := hb.size; omega)))
      have e : (lenC T S K G Q == (n : Int)) = true := by have := HL.out; have := HN.out; simp; omega
      clear hc hf hc2 hf2 hb hb2
      go_ret
      exact ⟨ret_bool (by simpa using e), hbw⟩

theorem walkChartWhole (W : World) (T S K G Q : Int) (_ : (Lit.int .i64 T).wf = true) (_ : (Lit.int .i64 S).wf = true) (_ : (Lit.int .i64 K).wf = true) (_ : (Lit.int .i64 G).wf = true) (_ : (Lit.int .u64 Q).wf = true) :
    Calls Try.prog 6 #[.agg #[.int .i64 T, .int .i64 S, .int .i64 K, .int .i64 G, .int .u64 Q]] W fun e w' => e = .returned (.bool true) ∧ Below W.heap.size W w' :=
  whole_walk W T S K G Q
end Go.Proofs.Ytfdfcdlbojnamaa.Pure
