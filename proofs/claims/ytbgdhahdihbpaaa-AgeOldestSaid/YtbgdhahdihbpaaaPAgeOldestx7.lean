-- PRINTED BY print.sh 35421559b90ae4d0a3588c463048766b98c2df88dd9212a6774a882060cdf62d: not written by this session
import Derived.Test.YtbgdhahdihbpaaaPAgeOldestx0
import Derived.Test.YtbgdhahdihbpaaaPAgeOldestx5
import Derived.Test.YtbgdhahdihbpaaaPAgeOldestx6
namespace Go.Proofs.Ytbgdhahdihbpaaa.PAgeOldest
open Go.RowKit Go.Proofs.YtbgdhahdihbpaaaW.PrintWords Go.Proofs.YtbgdhahdihbpaaaW.PrintLast Go.Proofs.YtbgdhahdihbpaaaW.PrintMore
attribute [local go_sem] max2_int min2_int max_two min_two max_three min_three max_four min_four   -- for this text's walks alone
set_option linter.unusedVariables false
set_option linter.unusedSimpArgs false

/-! ### umpireref15_Oldest: function 19 -/
mutual
def umpireref15_Oldest.j0 : Nat → List Int → Bool → Int → Int → Int → Int → Int → Option (Int × Bool)
  | 0, _, _, _, _, _, _, _ => none
  | k + 1, x1, x20, x174000, x174001, x174002, x174003, x174004 => if x20 = true then (some (0, false)) else (umpireref15_Oldest.l0 k x1 0 false 0 x174000 x174001 x174002 x174003 x174004)
def umpireref15_Oldest.l0 : Nat → List Int → Int → Bool → Int → Int → Int → Int → Int → Int → Option (Int × Bool)
  | 0, _, _, _, _, _, _, _, _, _ => none
  | k + 1, x1, x6, x7, x8, x174000, x174001, x174002, x174003, x174004 => if x8 < x174001 then ((umpireref05_Cell.f k x174000 x174001 x174002 x174003 x174004 4 x8).bind fun t176 => (if 0 ≤ t176 then (if t176 < (x1.length : Int) then ((umpireref01_State.f k (rd x1 t176)).bind fun t178 => ((umpireref05_Cell.f k x174000 x174001 x174002 x174003 x174004 5 x8).bind fun t179 => (if 0 ≤ t179 then (if t179 < (x1.length : Int) then (if t178 = 2 then (if x7 = true then (if (rd x1 t179) < x6 then (umpireref15_Oldest.l0 k x1 (rd x1 t179) true (wrap64 (x8 + 1)) x174000 x174001 x174002 x174003 x174004) else (umpireref15_Oldest.l0 k x1 x6 x7 (wrap64 (x8 + 1)) x174000 x174001 x174002 x174003 x174004)) else (umpireref15_Oldest.l0 k x1 (rd x1 t179) true (wrap64 (x8 + 1)) x174000 x174001 x174002 x174003 x174004)) else (if t178 = 3 then (if x7 = true then (if (rd x1 t179) < x6 then (umpireref15_Oldest.l0 k x1 (rd x1 t179) true (wrap64 (x8 + 1)) x174000 x174001 x174002 x174003 x174004) else (umpireref15_Oldest.l0 k x1 x6 x7 (wrap64 (x8 + 1)) x174000 x174001 x174002 x174003 x174004)) else (umpireref15_Oldest.l0 k x1 (rd x1 t179) true (wrap64 (x8 + 1)) x174000 x174001 x174002 x174003 x174004)) else (umpireref15_Oldest.l0 k x1 x6 x7 (wrap64 (x8 + 1)) x174000 x174001 x174002 x174003 x174004))) else (none)) else (none)))) else (none)) else (none))) else (some (x6, x7))
end
def umpireref15_Oldest.f (k : Nat) (a0_0 : Int) (a0_1 : Int) (a0_2 : Int) (a0_3 : Int) (a0_4 : Int) (l1 : List Int) : Option (Int × Bool) := (umpireref05_Right.f a0_0 a0_1 a0_2 a0_3 a0_4).bind fun t174 => (if t174 = true then ((umpireref05_Len.f k a0_0 a0_1 a0_2 a0_3 a0_4).bind fun t175 => (umpireref15_Oldest.j0 k l1 ((l1.length : Int) != t175) a0_0 a0_1 a0_2 a0_3 a0_4)) else (umpireref15_Oldest.j0 k l1 true a0_0 a0_1 a0_2 a0_3 a0_4))
theorem umpireref15_Oldest.mono_l : ∀ k, (∀ y0 y1 y2 y3 y4 y5 y6, LeO (umpireref15_Oldest.j0 k y0 y1 y2 y3 y4 y5 y6) (umpireref15_Oldest.j0 (k + 1) y0 y1 y2 y3 y4 y5 y6)) ∧ (∀ y0 y1 y2 y3 y4 y5 y6 y7 y8, LeO (umpireref15_Oldest.l0 k y0 y1 y2 y3 y4 y5 y6 y7 y8) (umpireref15_Oldest.l0 (k + 1) y0 y1 y2 y3 y4 y5 y6 y7 y8))
  | 0 => ⟨fun _ _ _ _ _ _ _ r h => by simp [umpireref15_Oldest.j0] at h, fun _ _ _ _ _ _ _ _ _ r h => by simp [umpireref15_Oldest.l0] at h⟩
  | k + 1 => by
    obtain ⟨ih0, ih1⟩ := umpireref15_Oldest.mono_l k
    refine ⟨?_, ?_⟩
    · intro y0 y1 y2 y3 y4 y5 y6
      unfold umpireref15_Oldest.j0
      repeat' first
      | (with_reducible exact ih0 _ _ _ _ _ _ _)
      | (with_reducible exact ih1 _ _ _ _ _ _ _ _ _)
      | (with_reducible exact umpireref01_State.mono _ _)
      | (with_reducible exact umpireref05_Cell.mono _ _ _ _ _ _ _ _)
      | (with_reducible exact umpireref05_Len.mono _ _ _ _ _ _)
      | (with_reducible exact LeO.refl _)
      | (with_reducible exact LeO.none _)
      | (with_reducible refine LeO.ite ?_ ?_)
      | (with_reducible refine LeO.bind ?_ (fun _ => ?_))
      | exact ih0 _ _ _ _ _ _ _
      | exact ih1 _ _ _ _ _ _ _ _ _
      | exact umpireref01_State.mono _ _
      | exact umpireref05_Cell.mono _ _ _ _ _ _ _ _
      | exact umpireref05_Len.mono _ _ _ _ _ _
      | exact LeO.none _
      | refine LeO.ite ?_ ?_
      | refine LeO.bind ?_ (fun _ => ?_)
    · intro y0 y1 y2 y3 y4 y5 y6 y7 y8
      unfold umpireref15_Oldest.l0
      repeat' first
      | (with_reducible exact ih0 _ _ _ _ _ _ _)
      | (with_reducible exact ih1 _ _ _ _ _ _ _ _ _)
      | (with_reducible exact umpireref01_State.mono _ _)
      | (with_reducible exact umpireref05_Cell.mono _ _ _ _ _ _ _ _)
      | (with_reducible exact umpireref05_Len.mono _ _ _ _ _ _)
      | (with_reducible exact LeO.refl _)
      | (with_reducible exact LeO.none _)
      | (with_reducible refine LeO.ite ?_ ?_)
      | (with_reducible refine LeO.bind ?_ (fun _ => ?_))
      | exact ih0 _ _ _ _ _ _ _
      | exact ih1 _ _ _ _ _ _ _ _ _
      | exact umpireref01_State.mono _ _
      | exact umpireref05_Cell.mono _ _ _ _ _ _ _ _
      | exact umpireref05_Len.mono _ _ _ _ _ _
      | exact LeO.none _
      | refine LeO.ite ?_ ?_
      | refine LeO.bind ?_ (fun _ => ?_)
theorem umpireref15_Oldest.mono : ∀ a0 a1 a2 a3 a4 a5 k, LeO (umpireref15_Oldest.f k a0 a1 a2 a3 a4 a5) (umpireref15_Oldest.f (k + 1) a0 a1 a2 a3 a4 a5) := by
  intro a0 a1 a2 a3 a4 a5 k
  obtain ⟨ih0, ih1⟩ := umpireref15_Oldest.mono_l k
  unfold umpireref15_Oldest.f
  repeat' first
      | (with_reducible exact ih0 _ _ _ _ _ _ _)
      | (with_reducible exact ih1 _ _ _ _ _ _ _ _ _)
      | (with_reducible exact umpireref01_State.mono _ _)
      | (with_reducible exact umpireref05_Cell.mono _ _ _ _ _ _ _ _)
      | (with_reducible exact umpireref05_Len.mono _ _ _ _ _ _)
      | (with_reducible exact LeO.refl _)
      | (with_reducible exact LeO.none _)
      | (with_reducible refine LeO.ite ?_ ?_)
      | (with_reducible refine LeO.bind ?_ (fun _ => ?_))
      | exact ih0 _ _ _ _ _ _ _
      | exact ih1 _ _ _ _ _ _ _ _ _
      | exact umpireref01_State.mono _ _
      | exact umpireref05_Cell.mono _ _ _ _ _ _ _ _
      | exact umpireref05_Len.mono _ _ _ _ _ _
      | exact LeO.none _
      | refine LeO.ite ?_ ?_
      | refine LeO.bind ?_ (fun _ => ?_)
set_option maxHeartbeats 8000000 in
set_option maxRecDepth 100000 in
theorem umpireref15_Oldest.calls (k : Nat) (a0_0 : Int) (a0_1 : Int) (a0_2 : Int) (a0_3 : Int) (a0_4 : Int) (A1 : Option Addr) (c1 : Nat) (l1 : List Int) (r1 : Int) (r2 : Bool) (w : World) (hr1 : Kd.C (Kd.int .u64) w A1 l1.length l1) (hc1 : l1.length ≤ c1) (h : umpireref15_Oldest.f k a0_0 a0_1 a0_2 a0_3 a0_4 l1 = some (r1, r2)) :
    Calls Try.prog 19 #[.agg #[.int .i64 a0_0, .int .i64 a0_1, .int .i64 a0_2, .int .i64 a0_3, .int .u64 a0_4], .slice A1 l1.length c1] w fun e w' => e = .returned (.tuple #[.int .u64 r1, .bool r2]) ∧ Below w.heap.size w w' := by
  have hu24 := Try.underlying24
  have HR1 := Aside0.mk hr1
  have HC1 := Aside0.mk hc1
  clear hr1 hc1
  have HB := Aside0.mk (Below.refl w.heap.size w)
  have H : ((umpireref05_Right.f a0_0 a0_1 a0_2 a0_3 a0_4).bind fun t174 => (if t174 = true then ((umpireref05_Len.f k a0_0 a0_1 a0_2 a0_3 a0_4).bind fun t175 => (umpireref15_Oldest.j0 k l1 ((l1.length : Int) != t175) a0_0 a0_1 a0_2 a0_3 a0_4)) else (umpireref15_Oldest.j0 k l1 true a0_0 a0_1 a0_2 a0_3 a0_4))) = some (r1, r2) := h
  clear h
  have HC3 := Aside0.mk H
  clear H
  go_enter Try.func19, Try.ntmps19
  go_upto_region 1 with (first | ((with_reducible refine gate_dst (N := 2) rfl ?_); (try (refine gate_guard (by rfl) ?_; dsimp only)); refine box_event ?hg (N := 2) ?hd (cs := #[.int .i64 a0_0, .int .i64 a0_1, .int .i64 a0_2, .int .i64 a0_3, .int .u64 a0_4]) (t := 24) ?hr ?_; (case hd => rfl); (case hg => rfl); (case hr => first | (go_simp; done) | (go_simp; rfl)); intro gb173 hg w4 hbox hb; have n0_ := Aside0.mk (below_step (by repeat (first | (with_reducible first | exact HB.out | apply below_alloc | apply pw_below_drewN | apply below_drew1) | exact HB.out)) hb); have n1_ := Aside0.mk (hbox); have n2_ := Aside0.mk ((by rw [hg]; exact (below_size (by repeat (first | (with_reducible first | exact HB.out | apply below_alloc | apply pw_below_drewN | apply below_drew1) | exact HB.out))) : w.heap.size ≤ gb173)); have n3_ := Aside0.mk ((by rw [hg]; exact (below_size (by repeat (first | (with_reducible first | exact HB.out | apply below_alloc | apply pw_below_drewN | apply below_drew1) | exact HB.out))) : w.heap.size ≤ gb173)); clear HB; have HB := n0_; have BK173 := n1_; have GW173 := n2_; have GE173 := n3_; clear n0_ n1_ n2_ n3_; clear hb hbox hg))
  (try simp only [Act.put, List.setIfInBounds_toArray, List.set_cons_zero, List.set_cons_succ])
  go_cut [20] (fun v20 wc => ∃ (kq : Nat) (x20_2 : Bool), v20 = .bool x20_2 ∧ Aside0 (umpireref15_Oldest.j0 kq l1 x20_2 a0_0 a0_1 a0_2 a0_3 a0_4 = some (r1, r2)) ∧ Aside0 (kq ≤ k) ∧ Aside0 (wc.heap[gb173]? = some (.cells #[.int .i64 a0_0, .int .i64 a0_1, .int .i64 a0_2, .int .i64 a0_3, .int .u64 a0_4] 24 (0, 0))) ∧ Aside0 (Below w.heap.size w wc))
  case first =>
    have H := HC3.out
    clear HC3
    replace H := Option.bind_eq_some_iff.mp H
    obtain ⟨t174, A50, H⟩ := H
    replace H : (if t174 = true then ((umpireref05_Len.f k a0_0 a0_1 a0_2 a0_3 a0_4).bind fun t175 => (umpireref15_Oldest.j0 k l1 ((l1.length : Int) != t175) a0_0 a0_1 a0_2 a0_3 a0_4)) else (umpireref15_Oldest.j0 k l1 true a0_0 a0_1 a0_2 a0_3 a0_4)) = some (r1, r2) := H
    have A5 := Aside0.mk A50
    clear A50
    by_cases c6 : t174 = true
    · subst c6
      have H1 : ((umpireref05_Len.f k a0_0 a0_1 a0_2 a0_3 a0_4).bind fun t175 => (umpireref15_Oldest.j0 k l1 ((l1.length : Int) != t175) a0_0 a0_1 a0_2 a0_3 a0_4)) = some (r1, r2) := by rw [if_pos rfl] at H; exact H
      clear H
      have H := H1
      clear H1
      replace H := Option.bind_eq_some_iff.mp H
      obtain ⟨t175, A70, H⟩ := H
      replace H : (umpireref15_Oldest.j0 k l1 ((l1.length : Int) != t175) a0_0 a0_1 a0_2 a0_3 a0_4) = some (r1, r2) := H
      have A7 := Aside0.mk A70
      clear A70
      have H' := Aside0.mk H
      clear H
      have hcz8_0 : w4.cell? ⟨gb173, 0, none⟩ = some (.int .i64 a0_0) := (blk_cell BK173.out 0).trans rfl
      have hcz8_1 : w4.cell? ⟨gb173, 1, none⟩ = some (.int .i64 a0_1) := (blk_cell BK173.out 1).trans rfl
      have hcz8_2 : w4.cell? ⟨gb173, 2, none⟩ = some (.int .i64 a0_2) := (blk_cell BK173.out 2).trans rfl
      have hcz8_3 : w4.cell? ⟨gb173, 3, none⟩ = some (.int .i64 a0_3) := (blk_cell BK173.out 3).trans rfl
      have hcz8_4 : w4.cell? ⟨gb173, 4, none⟩ = some (.int .u64 a0_4) := (blk_cell BK173.out 4).trans rfl
      have hfz8_0 := blk_frozen BK173.out 0
      have hfz8_1 := blk_frozen BK173.out 1
      have hfz8_2 := blk_frozen BK173.out 2
      have hfz8_3 := blk_frozen BK173.out 3
      have hfz8_4 := blk_frozen BK173.out 4
      go_wp2_with (first | ((with_reducible refine gate_callee (f := 31) rfl ?_); refine goesL_ (some 12) rfl rfl Try.func31 (by kernel_rfl) rfl #[.agg #[.int .i64 a0_0, .int .i64 a0_1, .int .i64 a0_2, .int .i64 a0_3, .int .u64 a0_4]] rfl (by (try simp only [List.map_toArray, List.map_cons, List.map_nil]); first | done | rfl | (simp only [List.length_drop, List.length_take]; rfl)) ?_; (with_reducible refine (umpireref05_Right.calls a0_0 a0_1 a0_2 a0_3 a0_4 true _ A5.out).mono ?_); rintro e w9 ⟨rfl, hb⟩; refine ⟨_, rfl, ?_⟩; have n0_ := Aside0.mk (blk_below (g := gb173) (o := .cells #[.int .i64 a0_0, .int .i64 a0_1, .int .i64 a0_2, .int .i64 a0_3, .int .u64 a0_4] 24 (0, 0)) (by (with_reducible repeat (first | refine blk_drewN ?_ _ | refine blk_drew ?_ | refine blk_alloc ?_ _)); exact BK173.out) hb); have n1_ := Aside0.mk (below_step (by repeat (first | (with_reducible first | exact HB.out | apply below_alloc | apply pw_below_drewN | apply below_drew1 | refine below_set ?_ GE173.out) | exact HB.out)) hb); clear BK173; clear HB; have BK173 := n0_; have HB := n1_; clear n0_ n1_; (try clear hb); (try clear hb2); (try clear hk); (try clear hi); have hcz10_0 : w9.cell? ⟨gb173, 0, none⟩ = some (.int .i64 a0_0) := (blk_cell BK173.out 0).trans rfl; have hcz10_1 : w9.cell? ⟨gb173, 1, none⟩ = some (.int .i64 a0_1) := (blk_cell BK173.out 1).trans rfl; have hcz10_2 : w9.cell? ⟨gb173, 2, none⟩ = some (.int .i64 a0_2) := (blk_cell BK173.out 2).trans rfl; have hcz10_3 : w9.cell? ⟨gb173, 3, none⟩ = some (.int .i64 a0_3) := (blk_cell BK173.out 3).trans rfl; have hcz10_4 : w9.cell? ⟨gb173, 4, none⟩ = some (.int .u64 a0_4) := (blk_cell BK173.out 4).trans rfl; have hfz10_0 := blk_frozen BK173.out 0; have hfz10_1 := blk_frozen BK173.out 1; have hfz10_2 := blk_frozen BK173.out 2; have hfz10_3 := blk_frozen BK173.out 3; have hfz10_4 := blk_frozen BK173.out 4) | (go_at_call 32; (with_reducible refine (umpireref05_Len.calls k a0_0 a0_1 a0_2 a0_3 a0_4 t175 _ A7.out).mono ?_); rintro e w11 ⟨rfl, hb⟩; have n0_ := Aside0.mk (blk_below (g := gb173) (o := .cells #[.int .i64 a0_0, .int .i64 a0_1, .int .i64 a0_2, .int .i64 a0_3, .int .u64 a0_4] 24 (0, 0)) (by (with_reducible repeat (first | refine blk_drewN ?_ _ | refine blk_drew ?_ | refine blk_alloc ?_ _)); exact BK173.out) hb); have n1_ := Aside0.mk (below_step (by repeat (first | (with_reducible first | exact HB.out | apply below_alloc | apply pw_below_drewN | apply below_drew1 | refine below_set ?_ GE173.out) | exact HB.out)) hb); clear BK173; clear HB; have BK173 := n0_; have HB := n1_; clear n0_ n1_; (try clear hb); (try clear hb2); (try clear hk); (try clear hi)))
      go_meet
      case rel => exact ⟨_, (((l1.length : Int) != t175)), (by first | rfl | (simp; done) | (simp [*]; done)), H', ⟨by first | omega | exact Nat.le_refl _⟩, ⟨by (with_reducible repeat (first | refine blk_drewN ?_ _ | refine blk_drew ?_ | refine blk_alloc ?_ _)); exact BK173.out⟩, ⟨by repeat (first | (with_reducible first | exact HB.out | apply below_alloc | apply pw_below_drewN | apply below_drew1 | refine below_set ?_ GE173.out) | exact HB.out)⟩⟩
    · replace c6 := Bool.eq_false_iff.mpr c6
      subst c6
      have H1 : (umpireref15_Oldest.j0 k l1 true a0_0 a0_1 a0_2 a0_3 a0_4) = some (r1, r2) := by rw [if_neg (show ¬ (false = true) by decide)] at H; exact H
      clear H
      have H := H1
      clear H1
      have H' := Aside0.mk H
      clear H
      have hcz12_0 : w4.cell? ⟨gb173, 0, none⟩ = some (.int .i64 a0_0) := (blk_cell BK173.out 0).trans rfl
      have hcz12_1 : w4.cell? ⟨gb173, 1, none⟩ = some (.int .i64 a0_1) := (blk_cell BK173.out 1).trans rfl
      have hcz12_2 : w4.cell? ⟨gb173, 2, none⟩ = some (.int .i64 a0_2) := (blk_cell BK173.out 2).trans rfl
      have hcz12_3 : w4.cell? ⟨gb173, 3, none⟩ = some (.int .i64 a0_3) := (blk_cell BK173.out 3).trans rfl
      have hcz12_4 : w4.cell? ⟨gb173, 4, none⟩ = some (.int .u64 a0_4) := (blk_cell BK173.out 4).trans rfl
      have hfz12_0 := blk_frozen BK173.out 0
      have hfz12_1 := blk_frozen BK173.out 1
      have hfz12_2 := blk_frozen BK173.out 2
      have hfz12_3 := blk_frozen BK173.out 3
      have hfz12_4 := blk_frozen BK173.out 4
      go_wp2_with (first | ((with_reducible refine gate_callee (f := 31) rfl ?_); refine goesL_ (some 12) rfl rfl Try.func31 (by kernel_rfl) rfl #[.agg #[.int .i64 a0_0, .int .i64 a0_1, .int .i64 a0_2, .int .i64 a0_3, .int .u64 a0_4]] rfl (by (try simp only [List.map_toArray, List.map_cons, List.map_nil]); first | done | rfl | (simp only [List.length_drop, List.length_take]; rfl)) ?_; (with_reducible refine (umpireref05_Right.calls a0_0 a0_1 a0_2 a0_3 a0_4 false _ A5.out).mono ?_); rintro e w13 ⟨rfl, hb⟩; refine ⟨_, rfl, ?_⟩; have n0_ := Aside0.mk (blk_below (g := gb173) (o := .cells #[.int .i64 a0_0, .int .i64 a0_1, .int .i64 a0_2, .int .i64 a0_3, .int .u64 a0_4] 24 (0, 0)) (by (with_reducible repeat (first | refine blk_drewN ?_ _ | refine blk_drew ?_ | refine blk_alloc ?_ _)); exact BK173.out) hb); have n1_ := Aside0.mk (below_step (by repeat (first | (with_reducible first | exact HB.out | apply below_alloc | apply pw_below_drewN | apply below_drew1 | refine below_set ?_ GE173.out) | exact HB.out)) hb); clear BK173; clear HB; have BK173 := n0_; have HB := n1_; clear n0_ n1_; (try clear hb); (try clear hb2); (try clear hk); (try clear hi)))
      go_meet
      case rel => exact ⟨_, (true), (by first | rfl | (simp; done) | (simp [*]; done)), H', ⟨by first | omega | exact Nat.le_refl _⟩, ⟨by (with_reducible repeat (first | refine blk_drewN ?_ _ | refine blk_drew ?_ | refine blk_alloc ?_ _)); exact BK173.out⟩, ⟨by repeat (first | (with_reducible first | exact HB.out | apply below_alloc | apply pw_below_drewN | apply below_drew1 | refine below_set ?_ GE173.out) | exact HB.out)⟩⟩
  case rest =>
    clear HC3
    try clear c1
    try clear p2
    try clear c3
    try clear c6
    try clear hcz10_0
    try clear hcz10_1
    try clear hcz10_2
    try clear hcz10_3
    try clear hcz10_4
    try clear hcz12_0
    try clear hcz12_1
    try clear hcz12_2
    try clear hcz12_3
    try clear hcz12_4
    try clear hcz8_0
    try clear hcz8_1
    try clear hcz8_2
    try clear hcz8_3
    try clear hcz8_4
    try clear hfz10_0
    try clear hfz10_1
    try clear hfz10_2
    try clear hfz10_3
    try clear hfz10_4
    try clear hfz12_0
    try clear hfz12_1
    try clear hfz12_2
    try clear hfz12_3
    try clear hfz12_4
    try clear hfz8_0
    try clear hfz8_1
    try clear hfz8_2
    try clear hfz8_3
    try clear hfz8_4
    obtain ⟨kq, x20_2, rfl, HA, HJ2, BK173, HB⟩ := hcut
    cases kq with
    | zero => exact absurd HA.out (by simp [umpireref15_Oldest.j0])
    | succ kj2 =>
      have H := HA.out
      clear HA
      simp only [umpireref15_Oldest.j0] at H
      by_cases c14 : x20_2 = true
      · subst c14
        have H1 : (some (0, false)) = some (r1, r2) := by rw [if_pos rfl] at H; exact H
        clear H
        have H := H1
        clear H1
        simp only [Option.some.injEq, Prod.mk.injEq] at H
        obtain ⟨rfl, rfl⟩ := H
        go_wp2
        go_ret2
        exact ⟨by first | rfl | (simp [errW_none, errW_some] <;> rfl) | (simp [*, errW_none, errW_some] <;> rfl), by repeat (first | (with_reducible first | exact HB.out | apply below_alloc | apply pw_below_drewN | apply below_drew1 | refine below_set ?_ GE173.out) | exact HB.out)⟩
      · replace c14 := Bool.eq_false_iff.mpr c14
        subst c14
        have H1 : (umpireref15_Oldest.l0 kj2 l1 0 false 0 a0_0 a0_1 a0_2 a0_3 a0_4) = some (r1, r2) := by rw [if_neg (show ¬ (false = true) by decide)] at H; exact H
        clear H
        have H := H1
        clear H1
        have H' := Aside0.mk H
        clear H
        go_wp2
        go_loopg [6, 7, 8] kj2 (fun kq v6 v7 v8 w' => ∃ (x6_2 : Int) (x7_2 : Bool) (x8_2 : Int), v6 = .int .u64 x6_2 ∧ v7 = .bool x7_2 ∧ v8 = .int .i64 x8_2 ∧ Aside0 (umpireref15_Oldest.l0 kq l1 x6_2 x7_2 x8_2 a0_0 a0_1 a0_2 a0_3 a0_4 = some (r1, r2)) ∧ Aside0 (kq ≤ kj2) ∧ Aside0 (w'.heap[gb173]? = some (.cells #[.int .i64 a0_0, .int .i64 a0_1, .int .i64 a0_2, .int .i64 a0_3, .int .u64 a0_4] 24 (0, 0))) ∧ Aside0 (Below w.heap.size w w'))
        case atStart => exact ⟨(0), (false), (0), (by first | rfl | (simp; done) | (simp [*]; done)), (by first | rfl | (simp; done) | (simp [*]; done)), (by first | rfl | (simp; done) | (simp [*]; done)), H', ⟨Nat.le_refl _⟩, ⟨by (with_reducible repeat (first | refine blk_drewN ?_ _ | refine blk_drew ?_ | refine blk_alloc ?_ _)); exact BK173.out⟩, ⟨by repeat (first | (with_reducible first | exact HB.out | apply below_alloc | apply pw_below_drewN | apply below_drew1 | refine below_set ?_ GE173.out) | exact HB.out)⟩⟩
        case round =>
          clear H'
          try clear c1
          try clear p2
          try clear c3
          try clear c6
          try clear c14
          try clear hcz10_0
          try clear hcz10_1
          try clear hcz10_2
          try clear hcz10_3
          try clear hcz10_4
          try clear hcz12_0
          try clear hcz12_1
          try clear hcz12_2
          try clear hcz12_3
          try clear hcz12_4
          try clear hcz8_0
          try clear hcz8_1
          try clear hcz8_2
          try clear hcz8_3
          try clear hcz8_4
          try clear hfz10_0
          try clear hfz10_1
          try clear hfz10_2
          try clear hfz10_3
          try clear hfz10_4
          try clear hfz12_0
          try clear hfz12_1
          try clear hfz12_2
          try clear hfz12_3
          try clear hfz12_4
          try clear hfz8_0
          try clear hfz8_1
          try clear hfz8_2
          try clear hfz8_3
          try clear hfz8_4
          try clear p2
          obtain ⟨x6_2, x7_2, x8_2, rfl, rfl, rfl, HA, HK2, BK173, HB⟩ := hrel
          cases gk with
          | zero => exact absurd HA.out (by simp [umpireref15_Oldest.l0])
          | succ k2 =>
            have H := HA.out
            clear HA
            simp only [umpireref15_Oldest.l0] at H
            by_cases c15 : x8_2 < a0_1
            · rw [if_pos c15] at H
              have c15b0 : decide (x8_2 < a0_1) = true := decide_eq_true c15
              clear c15
              replace H := Option.bind_eq_some_iff.mp H
              obtain ⟨t176, A160, H⟩ := H
              replace H : (if 0 ≤ t176 then (if t176 < (l1.length : Int) then ((umpireref01_State.f k2 (rd l1 t176)).bind fun t178 => ((umpireref05_Cell.f k2 a0_0 a0_1 a0_2 a0_3 a0_4 5 x8_2).bind fun t179 => (if 0 ≤ t179 then (if t179 < (l1.length : Int) then (if t178 = 2 then (if x7_2 = true then (if (rd l1 t179) < x6_2 then (umpireref15_Oldest.l0 k2 l1 (rd l1 t179) true (wrap64 (x8_2 + 1)) a0_0 a0_1 a0_2 a0_3 a0_4) else (umpireref15_Oldest.l0 k2 l1 x6_2 x7_2 (wrap64 (x8_2 + 1)) a0_0 a0_1 a0_2 a0_3 a0_4)) else (umpireref15_Oldest.l0 k2 l1 (rd l1 t179) true (wrap64 (x8_2 + 1)) a0_0 a0_1 a0_2 a0_3 a0_4)) else (if t178 = 3 then (if x7_2 = true then (if (rd l1 t179) < x6_2 then (umpireref15_Oldest.l0 k2 l1 (rd l1 t179) true (wrap64 (x8_2 + 1)) a0_0 a0_1 a0_2 a0_3 a0_4) else (umpireref15_Oldest.l0 k2 l1 x6_2 x7_2 (wrap64 (x8_2 + 1)) a0_0 a0_1 a0_2 a0_3 a0_4)) else (umpireref15_Oldest.l0 k2 l1 (rd l1 t179) true (wrap64 (x8_2 + 1)) a0_0 a0_1 a0_2 a0_3 a0_4)) else (umpireref15_Oldest.l0 k2 l1 x6_2 x7_2 (wrap64 (x8_2 + 1)) a0_0 a0_1 a0_2 a0_3 a0_4))) else (none)) else (none)))) else (none)) else (none)) = some (r1, r2) := H
              have A16 := Aside0.mk A160
              clear A160
              by_cases c17 : 0 ≤ t176
              · rw [if_pos c17] at H
                have c17b0 : decide (0 ≤ t176) = true := decide_eq_true c17
                clear c17
                by_cases c18 : t176 < (l1.length : Int)
                · rw [if_pos c18] at H
                  have c18b0 : decide (t176 < (l1.length : Int)) = true := decide_eq_true c18
                  clear c18
                  replace H := Option.bind_eq_some_iff.mp H
                  obtain ⟨t178, A190, H⟩ := H
                  replace H : ((umpireref05_Cell.f k2 a0_0 a0_1 a0_2 a0_3 a0_4 5 x8_2).bind fun t179 => (if 0 ≤ t179 then (if t179 < (l1.length : Int) then (if t178 = 2 then (if x7_2 = true then (if (rd l1 t179) < x6_2 then (umpireref15_Oldest.l0 k2 l1 (rd l1 t179) true (wrap64 (x8_2 + 1)) a0_0 a0_1 a0_2 a0_3 a0_4) else (umpireref15_Oldest.l0 k2 l1 x6_2 x7_2 (wrap64 (x8_2 + 1)) a0_0 a0_1 a0_2 a0_3 a0_4)) else (umpireref15_Oldest.l0 k2 l1 (rd l1 t179) true (wrap64 (x8_2 + 1)) a0_0 a0_1 a0_2 a0_3 a0_4)) else (if t178 = 3 then (if x7_2 = true then (if (rd l1 t179) < x6_2 then (umpireref15_Oldest.l0 k2 l1 (rd l1 t179) true (wrap64 (x8_2 + 1)) a0_0 a0_1 a0_2 a0_3 a0_4) else (umpireref15_Oldest.l0 k2 l1 x6_2 x7_2 (wrap64 (x8_2 + 1)) a0_0 a0_1 a0_2 a0_3 a0_4)) else (umpireref15_Oldest.l0 k2 l1 (rd l1 t179) true (wrap64 (x8_2 + 1)) a0_0 a0_1 a0_2 a0_3 a0_4)) else (umpireref15_Oldest.l0 k2 l1 x6_2 x7_2 (wrap64 (x8_2 + 1)) a0_0 a0_1 a0_2 a0_3 a0_4))) else (none)) else (none))) = some (r1, r2) := H
                  have A19 := Aside0.mk A190
                  clear A190
                  replace H := Option.bind_eq_some_iff.mp H
                  obtain ⟨t179, A200, H⟩ := H
                  replace H : (if 0 ≤ t179 then (if t179 < (l1.length : Int) then (if t178 = 2 then (if x7_2 = true then (if (rd l1 t179) < x6_2 then (umpireref15_Oldest.l0 k2 l1 (rd l1 t179) true (wrap64 (x8_2 + 1)) a0_0 a0_1 a0_2 a0_3 a0_4) else (umpireref15_Oldest.l0 k2 l1 x6_2 x7_2 (wrap64 (x8_2 + 1)) a0_0 a0_1 a0_2 a0_3 a0_4)) else (umpireref15_Oldest.l0 k2 l1 (rd l1 t179) true (wrap64 (x8_2 + 1)) a0_0 a0_1 a0_2 a0_3 a0_4)) else (if t178 = 3 then (if x7_2 = true then (if (rd l1 t179) < x6_2 then (umpireref15_Oldest.l0 k2 l1 (rd l1 t179) true (wrap64 (x8_2 + 1)) a0_0 a0_1 a0_2 a0_3 a0_4) else (umpireref15_Oldest.l0 k2 l1 x6_2 x7_2 (wrap64 (x8_2 + 1)) a0_0 a0_1 a0_2 a0_3 a0_4)) else (umpireref15_Oldest.l0 k2 l1 (rd l1 t179) true (wrap64 (x8_2 + 1)) a0_0 a0_1 a0_2 a0_3 a0_4)) else (umpireref15_Oldest.l0 k2 l1 x6_2 x7_2 (wrap64 (x8_2 + 1)) a0_0 a0_1 a0_2 a0_3 a0_4))) else (none)) else (none)) = some (r1, r2) := H
                  have A20 := Aside0.mk A200
                  clear A200
                  by_cases c21 : 0 ≤ t179
                  · rw [if_pos c21] at H
                    have c21b0 : decide (0 ≤ t179) = true := decide_eq_true c21
                    clear c21
                    by_cases c22 : t179 < (l1.length : Int)
                    · rw [if_pos c22] at H
                      have c22b0 : decide (t179 < (l1.length : Int)) = true := decide_eq_true c22
                      clear c22
                      by_cases c23 : t178 = 2
                      · rw [if_pos c23] at H
                        have c23b0 : (t178 == 2) = true := beq_iff_eq.mpr c23
                        have c23b1 : (t178 != 2) = false := bne_eq_false_iff_eq.mpr c23
                        clear c23
                        by_cases c24 : x7_2 = true
                        · subst c24
                          have H1 : (if (rd l1 t179) < x6_2 then (umpireref15_Oldest.l0 k2 l1 (rd l1 t179) true (wrap64 (x8_2 + 1)) a0_0 a0_1 a0_2 a0_3 a0_4) else (umpireref15_Oldest.l0 k2 l1 x6_2 true (wrap64 (x8_2 + 1)) a0_0 a0_1 a0_2 a0_3 a0_4)) = some (r1, r2) := by rw [if_pos rfl] at H; exact H
                          clear H
                          have H := H1
                          clear H1
                          by_cases c25 : (rd l1 t179) < x6_2
                          · rw [if_pos c25] at H
                            have c25b0 : decide ((rd l1 t179) < x6_2) = true := decide_eq_true c25
                            clear c25
                            have H' := Aside0.mk H
                            clear H
                            have hcz26_0 : wr.cell? ⟨gb173, 0, none⟩ = some (.int .i64 a0_0) := (blk_cell BK173.out 0).trans rfl
                            have hcz26_1 : wr.cell? ⟨gb173, 1, none⟩ = some (.int .i64 a0_1) := (blk_cell BK173.out 1).trans rfl
                            have hcz26_2 : wr.cell? ⟨gb173, 2, none⟩ = some (.int .i64 a0_2) := (blk_cell BK173.out 2).trans rfl
                            have hcz26_3 : wr.cell? ⟨gb173, 3, none⟩ = some (.int .i64 a0_3) := (blk_cell BK173.out 3).trans rfl
                            have hcz26_4 : wr.cell? ⟨gb173, 4, none⟩ = some (.int .u64 a0_4) := (blk_cell BK173.out 4).trans rfl
                            have hfz26_0 := blk_frozen BK173.out 0
                            have hfz26_1 := blk_frozen BK173.out 1
                            have hfz26_2 := blk_frozen BK173.out 2
                            have hfz26_3 := blk_frozen BK173.out 3
                            have hfz26_4 := blk_frozen BK173.out 4
                            go_wp2_with (first | ((with_reducible refine gate_callee (f := 38) rfl ?_); refine goesL_ (some 30) rfl rfl Try.func38 (by kernel_rfl) rfl #[.agg #[.int .i64 a0_0, .int .i64 a0_1, .int .i64 a0_2, .int .i64 a0_3, .int .u64 a0_4], .int .i64 4, .int .i64 x8_2] rfl (by (try simp only [List.map_toArray, List.map_cons, List.map_nil]); first | done | rfl | (simp only [List.length_drop, List.length_take]; rfl)) ?_; (with_reducible refine (umpireref05_Cell.calls k2 a0_0 a0_1 a0_2 a0_3 a0_4 4 x8_2 t176 _ A16.out).mono ?_); rintro e w27 ⟨rfl, hb⟩; refine ⟨_, rfl, ?_⟩; have n0_ := Aside0.mk (blk_below (g := gb173) (o := .cells #[.int .i64 a0_0, .int .i64 a0_1, .int .i64 a0_2, .int .i64 a0_3, .int .u64 a0_4] 24 (0, 0)) (by (with_reducible repeat (first | refine blk_drewN ?_ _ | refine blk_drew ?_ | refine blk_alloc ?_ _)); exact BK173.out) hb); have n1_ := Aside0.mk (below_step (by repeat (first | (with_reducible first | exact HB.out | apply below_alloc | apply pw_below_drewN | apply below_drew1 | refine below_set ?_ GE173.out) | exact HB.out)) hb); clear BK173; clear HB; have BK173 := n0_; have HB := n1_; clear n0_ n1_; (try clear hb); (try clear hb2); (try clear hk); (try clear hi); have p177 : 0 ≤ (t176 : Int) := of_decide_eq_true (by first | (with_reducible assumption) | assumption); have q177 : t176 < (l1.length : Int) := of_decide_eq_true (by first | (with_reducible assumption) | assumption); obtain ⟨ad177, e177, hx177_0⟩ := Kd.at_int HR1.out t176 p177 q177; cases e177; replace hx177_0 := (HB.out.cell (World.block_lt_of_cell? w _ hx177_0)).trans hx177_0; replace p177 := eq_true p177; replace q177 := eq_true q177) | ((with_reducible refine gate_callee (f := 13) rfl ?_); refine goesL_ (some 33) rfl rfl Try.func13 (by kernel_rfl) rfl #[.int .u64 (rd l1 t176)] rfl (by (try simp only [List.map_toArray, List.map_cons, List.map_nil]); first | done | rfl | (simp only [List.length_drop, List.length_take]; rfl)) ?_; (with_reducible refine (umpireref01_State.calls k2 (rd l1 t176) t178 _ A19.out).mono ?_); rintro e w' ⟨rfl, ⟨nd, rfl⟩⟩; refine ⟨_, rfl, ?_⟩; have hcz28_0 : w27.cell? ⟨gb173, 0, none⟩ = some (.int .i64 a0_0) := (blk_cell BK173.out 0).trans rfl; have hcz28_1 : w27.cell? ⟨gb173, 1, none⟩ = some (.int .i64 a0_1) := (blk_cell BK173.out 1).trans rfl; have hcz28_2 : w27.cell? ⟨gb173, 2, none⟩ = some (.int .i64 a0_2) := (blk_cell BK173.out 2).trans rfl; have hcz28_3 : w27.cell? ⟨gb173, 3, none⟩ = some (.int .i64 a0_3) := (blk_cell BK173.out 3).trans rfl; have hcz28_4 : w27.cell? ⟨gb173, 4, none⟩ = some (.int .u64 a0_4) := (blk_cell BK173.out 4).trans rfl; have hfz28_0 := blk_frozen BK173.out 0; have hfz28_1 := blk_frozen BK173.out 1; have hfz28_2 := blk_frozen BK173.out 2; have hfz28_3 := blk_frozen BK173.out 3; have hfz28_4 := blk_frozen BK173.out 4) | ((with_reducible refine gate_callee (f := 38) rfl ?_); refine goesL_ (some 37) rfl rfl Try.func38 (by kernel_rfl) rfl #[.agg #[.int .i64 a0_0, .int .i64 a0_1, .int .i64 a0_2, .int .i64 a0_3, .int .u64 a0_4], .int .i64 5, .int .i64 x8_2] rfl (by (try simp only [List.map_toArray, List.map_cons, List.map_nil]); first | done | rfl | (simp only [List.length_drop, List.length_take]; rfl)) ?_; (with_reducible refine (umpireref05_Cell.calls k2 a0_0 a0_1 a0_2 a0_3 a0_4 5 x8_2 t179 _ A20.out).mono ?_); rintro e w29 ⟨rfl, hb⟩; refine ⟨_, rfl, ?_⟩; have n0_ := Aside0.mk (blk_below (g := gb173) (o := .cells #[.int .i64 a0_0, .int .i64 a0_1, .int .i64 a0_2, .int .i64 a0_3, .int .u64 a0_4] 24 (0, 0)) (by (with_reducible repeat (first | refine blk_drewN ?_ _ | refine blk_drew ?_ | refine blk_alloc ?_ _)); exact BK173.out) hb); have n1_ := Aside0.mk (below_step (by repeat (first | (with_reducible first | exact HB.out | apply below_alloc | apply pw_below_drewN | apply below_drew1 | refine below_set ?_ GE173.out) | exact HB.out)) hb); clear BK173; clear HB; have BK173 := n0_; have HB := n1_; clear n0_ n1_; (try clear hb); (try clear hb2); (try clear hk); (try clear hi); have p180 : 0 ≤ (t179 : Int) := of_decide_eq_true (by first | (with_reducible assumption) | assumption); have q180 : t179 < (l1.length : Int) := of_decide_eq_true (by first | (with_reducible assumption) | assumption); obtain ⟨ad180, e180, hx180_0⟩ := Kd.at_int HR1.out t179 p180 q180; obtain rfl : ad177 = ad180 := (by injection e180); replace hx180_0 := (HB.out.cell (World.block_lt_of_cell? w _ hx180_0)).trans hx180_0; replace p180 := eq_true p180; replace q180 := eq_true q180))
                            go_roundg k2
                            case measure => have := HJ2.out; have := HK2.out; omega
                            case rel => exact ⟨(rd l1 t179), (true), (wrap64 (x8_2 + 1)), (by first | rfl | (simp; done) | (simp [*]; done)), (by first | rfl | (simp; done) | (simp [*]; done)), (by first | rfl | (simp; done) | (simp [*]; done)), H', ⟨by have := HJ2.out; have := HK2.out; omega⟩, ⟨by (with_reducible repeat (first | refine blk_drewN ?_ _ | refine blk_drew ?_ | refine blk_alloc ?_ _)); exact BK173.out⟩, ⟨by repeat (first | (with_reducible first | exact HB.out | apply below_alloc | apply pw_below_drewN | apply below_drew1 | refine below_set ?_ GE173.out) | exact HB.out)⟩⟩
                          · rw [if_neg c25] at H
                            have c25b0 : decide ((rd l1 t179) < x6_2) = false := decide_eq_false c25
                            clear c25
                            have H' := Aside0.mk H
                            clear H
                            have hcz30_0 : wr.cell? ⟨gb173, 0, none⟩ = some (.int .i64 a0_0) := (blk_cell BK173.out 0).trans rfl
                            have hcz30_1 : wr.cell? ⟨gb173, 1, none⟩ = some (.int .i64 a0_1) := (blk_cell BK173.out 1).trans rfl
                            have hcz30_2 : wr.cell? ⟨gb173, 2, none⟩ = some (.int .i64 a0_2) := (blk_cell BK173.out 2).trans rfl
                            have hcz30_3 : wr.cell? ⟨gb173, 3, none⟩ = some (.int .i64 a0_3) := (blk_cell BK173.out 3).trans rfl
                            have hcz30_4 : wr.cell? ⟨gb173, 4, none⟩ = some (.int .u64 a0_4) := (blk_cell BK173.out 4).trans rfl
                            have hfz30_0 := blk_frozen BK173.out 0
                            have hfz30_1 := blk_frozen BK173.out 1
                            have hfz30_2 := blk_frozen BK173.out 2
                            have hfz30_3 := blk_frozen BK173.out 3
                            have hfz30_4 := blk_frozen BK173.out 4
                            go_wp2_with (first | ((with_reducible refine gate_callee (f := 38) rfl ?_); refine goesL_ (some 30) rfl rfl Try.func38 (by kernel_rfl) rfl #[.agg #[.int .i64 a0_0, .int .i64 a0_1, .int .i64 a0_2, .int .i64 a0_3, .int .u64 a0_4], .int .i64 4, .int .i64 x8_2] rfl (by (try simp only [List.map_toArray, List.map_cons, List.map_nil]); first | done | rfl | (simp only [List.length_drop, List.length_take]; rfl)) ?_; (with_reducible refine (umpireref05_Cell.calls k2 a0_0 a0_1 a0_2 a0_3 a0_4 4 x8_2 t176 _ A16.out).mono ?_); rintro e w31 ⟨rfl, hb⟩; refine ⟨_, rfl, ?_⟩; have n0_ := Aside0.mk (blk_below (g := gb173) (o := .cells #[.int .i64 a0_0, .int .i64 a0_1, .int .i64 a0_2, .int .i64 a0_3, .int .u64 a0_4] 24 (0, 0)) (by (with_reducible repeat (first | refine blk_drewN ?_ _ | refine blk_drew ?_ | refine blk_alloc ?_ _)); exact BK173.out) hb); have n1_ := Aside0.mk (below_step (by repeat (first | (with_reducible first | exact HB.out | apply below_alloc | apply pw_below_drewN | apply below_drew1 | refine below_set ?_ GE173.out) | exact HB.out)) hb); clear BK173; clear HB; have BK173 := n0_; have HB := n1_; clear n0_ n1_; (try clear hb); (try clear hb2); (try clear hk); (try clear hi); have p177 : 0 ≤ (t176 : Int) := of_decide_eq_true (by first | (with_reducible assumption) | assumption); have q177 : t176 < (l1.length : Int) := of_decide_eq_true (by first | (with_reducible assumption) | assumption); obtain ⟨ad177, e177, hx177_0⟩ := Kd.at_int HR1.out t176 p177 q177; cases e177; replace hx177_0 := (HB.out.cell (World.block_lt_of_cell? w _ hx177_0)).trans hx177_0; replace p177 := eq_true p177; replace q177 := eq_true q177) | ((with_reducible refine gate_callee (f := 13) rfl ?_); refine goesL_ (some 33) rfl rfl Try.func13 (by kernel_rfl) rfl #[.int .u64 (rd l1 t176)] rfl (by (try simp only [List.map_toArray, List.map_cons, List.map_nil]); first | done | rfl | (simp only [List.length_drop, List.length_take]; rfl)) ?_; (with_reducible refine (umpireref01_State.calls k2 (rd l1 t176) t178 _ A19.out).mono ?_); rintro e w' ⟨rfl, ⟨nd, rfl⟩⟩; refine ⟨_, rfl, ?_⟩; have hcz32_0 : w31.cell? ⟨gb173, 0, none⟩ = some (.int .i64 a0_0) := (blk_cell BK173.out 0).trans rfl; have hcz32_1 : w31.cell? ⟨gb173, 1, none⟩ = some (.int .i64 a0_1) := (blk_cell BK173.out 1).trans rfl; have hcz32_2 : w31.cell? ⟨gb173, 2, none⟩ = some (.int .i64 a0_2) := (blk_cell BK173.out 2).trans rfl; have hcz32_3 : w31.cell? ⟨gb173, 3, none⟩ = some (.int .i64 a0_3) := (blk_cell BK173.out 3).trans rfl; have hcz32_4 : w31.cell? ⟨gb173, 4, none⟩ = some (.int .u64 a0_4) := (blk_cell BK173.out 4).trans rfl; have hfz32_0 := blk_frozen BK173.out 0; have hfz32_1 := blk_frozen BK173.out 1; have hfz32_2 := blk_frozen BK173.out 2; have hfz32_3 := blk_frozen BK173.out 3; have hfz32_4 := blk_frozen BK173.out 4) | ((with_reducible refine gate_callee (f := 38) rfl ?_); refine goesL_ (some 37) rfl rfl Try.func38 (by kernel_rfl) rfl #[.agg #[.int .i64 a0_0, .int .i64 a0_1, .int .i64 a0_2, .int .i64 a0_3, .int .u64 a0_4], .int .i64 5, .int .i64 x8_2] rfl (by (try simp only [List.map_toArray, List.map_cons, List.map_nil]); first | done | rfl | (simp only [List.length_drop, List.length_take]; rfl)) ?_; (with_reducible refine (umpireref05_Cell.calls k2 a0_0 a0_1 a0_2 a0_3 a0_4 5 x8_2 t179 _ A20.out).mono ?_); rintro e w33 ⟨rfl, hb⟩; refine ⟨_, rfl, ?_⟩; have n0_ := Aside0.mk (blk_below (g := gb173) (o := .cells #[.int .i64 a0_0, .int .i64 a0_1, .int .i64 a0_2, .int .i64 a0_3, .int .u64 a0_4] 24 (0, 0)) (by (with_reducible repeat (first | refine blk_drewN ?_ _ | refine blk_drew ?_ | refine blk_alloc ?_ _)); exact BK173.out) hb); have n1_ := Aside0.mk (below_step (by repeat (first | (with_reducible first | exact HB.out | apply below_alloc | apply pw_below_drewN | apply below_drew1 | refine below_set ?_ GE173.out) | exact HB.out)) hb); clear BK173; clear HB; have BK173 := n0_; have HB := n1_; clear n0_ n1_; (try clear hb); (try clear hb2); (try clear hk); (try clear hi); have p180 : 0 ≤ (t179 : Int) := of_decide_eq_true (by first | (with_reducible assumption) | assumption); have q180 : t179 < (l1.length : Int) := of_decide_eq_true (by first | (with_reducible assumption) | assumption); obtain ⟨ad180, e180, hx180_0⟩ := Kd.at_int HR1.out t179 p180 q180; obtain rfl : ad177 = ad180 := (by injection e180); replace hx180_0 := (HB.out.cell (World.block_lt_of_cell? w _ hx180_0)).trans hx180_0; replace p180 := eq_true p180; replace q180 := eq_true q180))
                            go_roundg k2
                            case measure => have := HJ2.out; have := HK2.out; omega
                            case rel => exact ⟨(x6_2), (true), (wrap64 (x8_2 + 1)), (by first | rfl | (simp; done) | (simp [*]; done)), (by first | rfl | (simp; done) | (simp [*]; done)), (by first | rfl | (simp; done) | (simp [*]; done)), H', ⟨by have := HJ2.out; have := HK2.out; omega⟩, ⟨by (with_reducible repeat (first | refine blk_drewN ?_ _ | refine blk_drew ?_ | refine blk_alloc ?_ _)); exact BK173.out⟩, ⟨by repeat (first | (with_reducible first | exact HB.out | apply below_alloc | apply pw_below_drewN | apply below_drew1 | refine below_set ?_ GE173.out) | exact HB.out)⟩⟩
                        · replace c24 := Bool.eq_false_iff.mpr c24
                          subst c24
                          have H1 : (umpireref15_Oldest.l0 k2 l1 (rd l1 t179) true (wrap64 (x8_2 + 1)) a0_0 a0_1 a0_2 a0_3 a0_4) = some (r1, r2) := by rw [if_neg (show ¬ (false = true) by decide)] at H; exact H
                          clear H
                          have H := H1
                          clear H1
                          have H' := Aside0.mk H
                          clear H
                          have hcz34_0 : wr.cell? ⟨gb173, 0, none⟩ = some (.int .i64 a0_0) := (blk_cell BK173.out 0).trans rfl
                          have hcz34_1 : wr.cell? ⟨gb173, 1, none⟩ = some (.int .i64 a0_1) := (blk_cell BK173.out 1).trans rfl
                          have hcz34_2 : wr.cell? ⟨gb173, 2, none⟩ = some (.int .i64 a0_2) := (blk_cell BK173.out 2).trans rfl
                          have hcz34_3 : wr.cell? ⟨gb173, 3, none⟩ = some (.int .i64 a0_3) := (blk_cell BK173.out 3).trans rfl
                          have hcz34_4 : wr.cell? ⟨gb173, 4, none⟩ = some (.int .u64 a0_4) := (blk_cell BK173.out 4).trans rfl
                          have hfz34_0 := blk_frozen BK173.out 0
                          have hfz34_1 := blk_frozen BK173.out 1
                          have hfz34_2 := blk_frozen BK173.out 2
                          have hfz34_3 := blk_frozen BK173.out 3
                          have hfz34_4 := blk_frozen BK173.out 4
                          go_wp2_with (first | ((with_reducible refine gate_callee (f := 38) rfl ?_); refine goesL_ (some 30) rfl rfl Try.func38 (by kernel_rfl) rfl #[.agg #[.int .i64 a0_0, .int .i64 a0_1, .int .i64 a0_2, .int .i64 a0_3, .int .u64 a0_4], .int .i64 4, .int .i64 x8_2] rfl (by (try simp only [List.map_toArray, List.map_cons, List.map_nil]); first | done | rfl | (simp only [List.length_drop, List.length_take]; rfl)) ?_; (with_reducible refine (umpireref05_Cell.calls k2 a0_0 a0_1 a0_2 a0_3 a0_4 4 x8_2 t176 _ A16.out).mono ?_); rintro e w35 ⟨rfl, hb⟩; refine ⟨_, rfl, ?_⟩; have n0_ := Aside0.mk (blk_below (g := gb173) (o := .cells #[.int .i64 a0_0, .int .i64 a0_1, .int .i64 a0_2, .int .i64 a0_3, .int .u64 a0_4] 24 (0, 0)) (by (with_reducible repeat (first | refine blk_drewN ?_ _ | refine blk_drew ?_ | refine blk_alloc ?_ _)); exact BK173.out) hb); have n1_ := Aside0.mk (below_step (by repeat (first | (with_reducible first | exact HB.out | apply below_alloc | apply pw_below_drewN | apply below_drew1 | refine below_set ?_ GE173.out) | exact HB.out)) hb); clear BK173; clear HB; have BK173 := n0_; have HB := n1_; clear n0_ n1_; (try clear hb); (try clear hb2); (try clear hk); (try clear hi); have p177 : 0 ≤ (t176 : Int) := of_decide_eq_true (by first | (with_reducible assumption) | assumption); have q177 : t176 < (l1.length : Int) := of_decide_eq_true (by first | (with_reducible assumption) | assumption); obtain ⟨ad177, e177, hx177_0⟩ := Kd.at_int HR1.out t176 p177 q177; cases e177; replace hx177_0 := (HB.out.cell (World.block_lt_of_cell? w _ hx177_0)).trans hx177_0; replace p177 := eq_true p177; replace q177 := eq_true q177) | ((with_reducible refine gate_callee (f := 13) rfl ?_); refine goesL_ (some 33) rfl rfl Try.func13 (by kernel_rfl) rfl #[.int .u64 (rd l1 t176)] rfl (by (try simp only [List.map_toArray, List.map_cons, List.map_nil]); first | done | rfl | (simp only [List.length_drop, List.length_take]; rfl)) ?_; (with_reducible refine (umpireref01_State.calls k2 (rd l1 t176) t178 _ A19.out).mono ?_); rintro e w' ⟨rfl, ⟨nd, rfl⟩⟩; refine ⟨_, rfl, ?_⟩; have hcz36_0 : w35.cell? ⟨gb173, 0, none⟩ = some (.int .i64 a0_0) := (blk_cell BK173.out 0).trans rfl; have hcz36_1 : w35.cell? ⟨gb173, 1, none⟩ = some (.int .i64 a0_1) := (blk_cell BK173.out 1).trans rfl; have hcz36_2 : w35.cell? ⟨gb173, 2, none⟩ = some (.int .i64 a0_2) := (blk_cell BK173.out 2).trans rfl; have hcz36_3 : w35.cell? ⟨gb173, 3, none⟩ = some (.int .i64 a0_3) := (blk_cell BK173.out 3).trans rfl; have hcz36_4 : w35.cell? ⟨gb173, 4, none⟩ = some (.int .u64 a0_4) := (blk_cell BK173.out 4).trans rfl; have hfz36_0 := blk_frozen BK173.out 0; have hfz36_1 := blk_frozen BK173.out 1; have hfz36_2 := blk_frozen BK173.out 2; have hfz36_3 := blk_frozen BK173.out 3; have hfz36_4 := blk_frozen BK173.out 4) | ((with_reducible refine gate_callee (f := 38) rfl ?_); refine goesL_ (some 37) rfl rfl Try.func38 (by kernel_rfl) rfl #[.agg #[.int .i64 a0_0, .int .i64 a0_1, .int .i64 a0_2, .int .i64 a0_3, .int .u64 a0_4], .int .i64 5, .int .i64 x8_2] rfl (by (try simp only [List.map_toArray, List.map_cons, List.map_nil]); first | done | rfl | (simp only [List.length_drop, List.length_take]; rfl)) ?_; (with_reducible refine (umpireref05_Cell.calls k2 a0_0 a0_1 a0_2 a0_3 a0_4 5 x8_2 t179 _ A20.out).mono ?_); rintro e w37 ⟨rfl, hb⟩; refine ⟨_, rfl, ?_⟩; have n0_ := Aside0.mk (blk_below (g := gb173) (o := .cells #[.int .i64 a0_0, .int .i64 a0_1, .int .i64 a0_2, .int .i64 a0_3, .int .u64 a0_4] 24 (0, 0)) (by (with_reducible repeat (first | refine blk_drewN ?_ _ | refine blk_drew ?_ | refine blk_alloc ?_ _)); exact BK173.out) hb); have n1_ := Aside0.mk (below_step (by repeat (first | (with_reducible first | exact HB.out | apply below_alloc | apply pw_below_drewN | apply below_drew1 | refine below_set ?_ GE173.out) | exact HB.out)) hb); clear BK173; clear HB; have BK173 := n0_; have HB := n1_; clear n0_ n1_; (try clear hb); (try clear hb2); (try clear hk); (try clear hi); have p180 : 0 ≤ (t179 : Int) := of_decide_eq_true (by first | (with_reducible assumption) | assumption); have q180 : t179 < (l1.length : Int) := of_decide_eq_true (by first | (with_reducible assumption) | assumption); obtain ⟨ad180, e180, hx180_0⟩ := Kd.at_int HR1.out t179 p180 q180; obtain rfl : ad177 = ad180 := (by injection e180); replace hx180_0 := (HB.out.cell (World.block_lt_of_cell? w _ hx180_0)).trans hx180_0; replace p180 := eq_true p180; replace q180 := eq_true q180))
                          go_roundg k2
                          case measure => have := HJ2.out; have := HK2.out; omega
                          case rel => exact ⟨(rd l1 t179), (true), (wrap64 (x8_2 + 1)), (by first | rfl | (simp; done) | (simp [*]; done)), (by first | rfl | (simp; done) | (simp [*]; done)), (by first | rfl | (simp; done) | (simp [*]; done)), H', ⟨by have := HJ2.out; have := HK2.out; omega⟩, ⟨by (with_reducible repeat (first | refine blk_drewN ?_ _ | refine blk_drew ?_ | refine blk_alloc ?_ _)); exact BK173.out⟩, ⟨by repeat (first | (with_reducible first | exact HB.out | apply below_alloc | apply pw_below_drewN | apply below_drew1 | refine below_set ?_ GE173.out) | exact HB.out)⟩⟩
                      · rw [if_neg c23] at H
                        have c23b0 : (t178 == 2) = false := beq_eq_false_iff_ne.mpr c23
                        have c23b1 : (t178 != 2) = true := bne_iff_ne.mpr c23
                        by_cases c38 : t178 = 3
                        · rw [if_pos c38] at H
                          have c38b0 : (t178 == 3) = true := beq_iff_eq.mpr c38
                          have c38b1 : (t178 != 3) = false := bne_eq_false_iff_eq.mpr c38
                          clear c38
                          by_cases c39 : x7_2 = true
                          · subst c39
                            have H1 : (if (rd l1 t179) < x6_2 then (umpireref15_Oldest.l0 k2 l1 (rd l1 t179) true (wrap64 (x8_2 + 1)) a0_0 a0_1 a0_2 a0_3 a0_4) else (umpireref15_Oldest.l0 k2 l1 x6_2 true (wrap64 (x8_2 + 1)) a0_0 a0_1 a0_2 a0_3 a0_4)) = some (r1, r2) := by rw [if_pos rfl] at H; exact H
                            clear H
                            have H := H1
                            clear H1
                            by_cases c40 : (rd l1 t179) < x6_2
                            · rw [if_pos c40] at H
                              have c40b0 : decide ((rd l1 t179) < x6_2) = true := decide_eq_true c40
                              clear c40
                              have H' := Aside0.mk H
                              clear H
                              have hcz41_0 : wr.cell? ⟨gb173, 0, none⟩ = some (.int .i64 a0_0) := (blk_cell BK173.out 0).trans rfl
                              have hcz41_1 : wr.cell? ⟨gb173, 1, none⟩ = some (.int .i64 a0_1) := (blk_cell BK173.out 1).trans rfl
                              have hcz41_2 : wr.cell? ⟨gb173, 2, none⟩ = some (.int .i64 a0_2) := (blk_cell BK173.out 2).trans rfl
                              have hcz41_3 : wr.cell? ⟨gb173, 3, none⟩ = some (.int .i64 a0_3) := (blk_cell BK173.out 3).trans rfl
                              have hcz41_4 : wr.cell? ⟨gb173, 4, none⟩ = some (.int .u64 a0_4) := (blk_cell BK173.out 4).trans rfl
                              have hfz41_0 := blk_frozen BK173.out 0
                              have hfz41_1 := blk_frozen BK173.out 1
                              have hfz41_2 := blk_frozen BK173.out 2
                              have hfz41_3 := blk_frozen BK173.out 3
                              have hfz41_4 := blk_frozen BK173.out 4
                              go_wp2_with (first | ((with_reducible refine gate_callee (f := 38) rfl ?_); refine goesL_ (some 30) rfl rfl Try.func38 (by kernel_rfl) rfl #[.agg #[.int .i64 a0_0, .int .i64 a0_1, .int .i64 a0_2, .int .i64 a0_3, .int .u64 a0_4], .int .i64 4, .int .i64 x8_2] rfl (by (try simp only [List.map_toArray, List.map_cons, List.map_nil]); first | done | rfl | (simp only [List.length_drop, List.length_take]; rfl)) ?_; (with_reducible refine (umpireref05_Cell.calls k2 a0_0 a0_1 a0_2 a0_3 a0_4 4 x8_2 t176 _ A16.out).mono ?_); rintro e w42 ⟨rfl, hb⟩; refine ⟨_, rfl, ?_⟩; have n0_ := Aside0.mk (blk_below (g := gb173) (o := .cells #[.int .i64 a0_0, .int .i64 a0_1, .int .i64 a0_2, .int .i64 a0_3, .int .u64 a0_4] 24 (0, 0)) (by (with_reducible repeat (first | refine blk_drewN ?_ _ | refine blk_drew ?_ | refine blk_alloc ?_ _)); exact BK173.out) hb); have n1_ := Aside0.mk (below_step (by repeat (first | (with_reducible first | exact HB.out | apply below_alloc | apply pw_below_drewN | apply below_drew1 | refine below_set ?_ GE173.out) | exact HB.out)) hb); clear BK173; clear HB; have BK173 := n0_; have HB := n1_; clear n0_ n1_; (try clear hb); (try clear hb2); (try clear hk); (try clear hi); have p177 : 0 ≤ (t176 : Int) := of_decide_eq_true (by first | (with_reducible assumption) | assumption); have q177 : t176 < (l1.length : Int) := of_decide_eq_true (by first | (with_reducible assumption) | assumption); obtain ⟨ad177, e177, hx177_0⟩ := Kd.at_int HR1.out t176 p177 q177; cases e177; replace hx177_0 := (HB.out.cell (World.block_lt_of_cell? w _ hx177_0)).trans hx177_0; replace p177 := eq_true p177; replace q177 := eq_true q177) | ((with_reducible refine gate_callee (f := 13) rfl ?_); refine goesL_ (some 33) rfl rfl Try.func13 (by kernel_rfl) rfl #[.int .u64 (rd l1 t176)] rfl (by (try simp only [List.map_toArray, List.map_cons, List.map_nil]); first | done | rfl | (simp only [List.length_drop, List.length_take]; rfl)) ?_; (with_reducible refine (umpireref01_State.calls k2 (rd l1 t176) t178 _ A19.out).mono ?_); rintro e w' ⟨rfl, ⟨nd, rfl⟩⟩; refine ⟨_, rfl, ?_⟩; have hcz43_0 : w42.cell? ⟨gb173, 0, none⟩ = some (.int .i64 a0_0) := (blk_cell BK173.out 0).trans rfl; have hcz43_1 : w42.cell? ⟨gb173, 1, none⟩ = some (.int .i64 a0_1) := (blk_cell BK173.out 1).trans rfl; have hcz43_2 : w42.cell? ⟨gb173, 2, none⟩ = some (.int .i64 a0_2) := (blk_cell BK173.out 2).trans rfl; have hcz43_3 : w42.cell? ⟨gb173, 3, none⟩ = some (.int .i64 a0_3) := (blk_cell BK173.out 3).trans rfl; have hcz43_4 : w42.cell? ⟨gb173, 4, none⟩ = some (.int .u64 a0_4) := (blk_cell BK173.out 4).trans rfl; have hfz43_0 := blk_frozen BK173.out 0; have hfz43_1 := blk_frozen BK173.out 1; have hfz43_2 := blk_frozen BK173.out 2; have hfz43_3 := blk_frozen BK173.out 3; have hfz43_4 := blk_frozen BK173.out 4) | ((with_reducible refine gate_callee (f := 38) rfl ?_); refine goesL_ (some 37) rfl rfl Try.func38 (by kernel_rfl) rfl #[.agg #[.int .i64 a0_0, .int .i64 a0_1, .int .i64 a0_2, .int .i64 a0_3, .int .u64 a0_4], .int .i64 5, .int .i64 x8_2] rfl (by (try simp only [List.map_toArray, List.map_cons, List.map_nil]); first | done | rfl | (simp only [List.length_drop, List.length_take]; rfl)) ?_; (with_reducible refine (umpireref05_Cell.calls k2 a0_0 a0_1 a0_2 a0_3 a0_4 5 x8_2 t179 _ A20.out).mono ?_); rintro e w44 ⟨rfl, hb⟩; refine ⟨_, rfl, ?_⟩; have n0_ := Aside0.mk (blk_below (g := gb173) (o := .cells #[.int .i64 a0_0, .int .i64 a0_1, .int .i64 a0_2, .int .i64 a0_3, .int .u64 a0_4] 24 (0, 0)) (by (with_reducible repeat (first | refine blk_drewN ?_ _ | refine blk_drew ?_ | refine blk_alloc ?_ _)); exact BK173.out) hb); have n1_ := Aside0.mk (below_step (by repeat (first | (with_reducible first | exact HB.out | apply below_alloc | apply pw_below_drewN | apply below_drew1 | refine below_set ?_ GE173.out) | exact HB.out)) hb); clear BK173; clear HB; have BK173 := n0_; have HB := n1_; clear n0_ n1_; (try clear hb); (try clear hb2); (try clear hk); (try clear hi); have p180 : 0 ≤ (t179 : Int) := of_decide_eq_true (by first | (with_reducible assumption) | assumption); have q180 : t179 < (l1.length : Int) := of_decide_eq_true (by first | (with_reducible assumption) | assumption); obtain ⟨ad180, e180, hx180_0⟩ := Kd.at_int HR1.out t179 p180 q180; obtain rfl : ad177 = ad180 := (by injection e180); replace hx180_0 := (HB.out.cell (World.block_lt_of_cell? w _ hx180_0)).trans hx180_0; replace p180 := eq_true p180; replace q180 := eq_true q180))
                              go_roundg k2
                              case measure => have := HJ2.out; have := HK2.out; omega
                              case rel => exact ⟨(rd l1 t179), (true), (wrap64 (x8_2 + 1)), (by first | rfl | (simp; done) | (simp [*]; done)), (by first | rfl | (simp; done) | (simp [*]; done)), (by first | rfl | (simp; done) | (simp [*]; done)), H', ⟨by have := HJ2.out; have := HK2.out; omega⟩, ⟨by (with_reducible repeat (first | refine blk_drewN ?_ _ | refine blk_drew ?_ | refine blk_alloc ?_ _)); exact BK173.out⟩, ⟨by repeat (first | (with_reducible first | exact HB.out | apply below_alloc | apply pw_below_drewN | apply below_drew1 | refine below_set ?_ GE173.out) | exact HB.out)⟩⟩
                            · rw [if_neg c40] at H
                              have c40b0 : decide ((rd l1 t179) < x6_2) = false := decide_eq_false c40
                              clear c40
                              have H' := Aside0.mk H
                              clear H
                              have hcz45_0 : wr.cell? ⟨gb173, 0, none⟩ = some (.int .i64 a0_0) := (blk_cell BK173.out 0).trans rfl
                              have hcz45_1 : wr.cell? ⟨gb173, 1, none⟩ = some (.int .i64 a0_1) := (blk_cell BK173.out 1).trans rfl
                              have hcz45_2 : wr.cell? ⟨gb173, 2, none⟩ = some (.int .i64 a0_2) := (blk_cell BK173.out 2).trans rfl
                              have hcz45_3 : wr.cell? ⟨gb173, 3, none⟩ = some (.int .i64 a0_3) := (blk_cell BK173.out 3).trans rfl
                              have hcz45_4 : wr.cell? ⟨gb173, 4, none⟩ = some (.int .u64 a0_4) := (blk_cell BK173.out 4).trans rfl
                              have hfz45_0 := blk_frozen BK173.out 0
                              have hfz45_1 := blk_frozen BK173.out 1
                              have hfz45_2 := blk_frozen BK173.out 2
                              have hfz45_3 := blk_frozen BK173.out 3
                              have hfz45_4 := blk_frozen BK173.out 4
                              go_wp2_with (first | ((with_reducible refine gate_callee (f := 38) rfl ?_); refine goesL_ (some 30) rfl rfl Try.func38 (by kernel_rfl) rfl #[.agg #[.int .i64 a0_0, .int .i64 a0_1, .int .i64 a0_2, .int .i64 a0_3, .int .u64 a0_4], .int .i64 4, .int .i64 x8_2] rfl (by (try simp only [List.map_toArray, List.map_cons, List.map_nil]); first | done | rfl | (simp only [List.length_drop, List.length_take]; rfl)) ?_; (with_reducible refine (umpireref05_Cell.calls k2 a0_0 a0_1 a0_2 a0_3 a0_4 4 x8_2 t176 _ A16.out).mono ?_); rintro e w46 ⟨rfl, hb⟩; refine ⟨_, rfl, ?_⟩; have n0_ := Aside0.mk (blk_below (g := gb173) (o := .cells #[.int .i64 a0_0, .int .i64 a0_1, .int .i64 a0_2, .int .i64 a0_3, .int .u64 a0_4] 24 (0, 0)) (by (with_reducible repeat (first | refine blk_drewN ?_ _ | refine blk_drew ?_ | refine blk_alloc ?_ _)); exact BK173.out) hb); have n1_ := Aside0.mk (below_step (by repeat (first | (with_reducible first | exact HB.out | apply below_alloc | apply pw_below_drewN | apply below_drew1 | refine below_set ?_ GE173.out) | exact HB.out)) hb); clear BK173; clear HB; have BK173 := n0_; have HB := n1_; clear n0_ n1_; (try clear hb); (try clear hb2); (try clear hk); (try clear hi); have p177 : 0 ≤ (t176 : Int) := of_decide_eq_true (by first | (with_reducible assumption) | assumption); have q177 : t176 < (l1.length : Int) := of_decide_eq_true (by first | (with_reducible assumption) | assumption); obtain ⟨ad177, e177, hx177_0⟩ := Kd.at_int HR1.out t176 p177 q177; cases e177; replace hx177_0 := (HB.out.cell (World.block_lt_of_cell? w _ hx177_0)).trans hx177_0; replace p177 := eq_true p177; replace q177 := eq_true q177) | ((with_reducible refine gate_callee (f := 13) rfl ?_); refine goesL_ (some 33) rfl rfl Try.func13 (by kernel_rfl) rfl #[.int .u64 (rd l1 t176)] rfl (by (try simp only [List.map_toArray, List.map_cons, List.map_nil]); first | done | rfl | (simp only [List.length_drop, List.length_take]; rfl)) ?_; (with_reducible refine (umpireref01_State.calls k2 (rd l1 t176) t178 _ A19.out).mono ?_); rintro e w' ⟨rfl, ⟨nd, rfl⟩⟩; refine ⟨_, rfl, ?_⟩; have hcz47_0 : w46.cell? ⟨gb173, 0, none⟩ = some (.int .i64 a0_0) := (blk_cell BK173.out 0).trans rfl; have hcz47_1 : w46.cell? ⟨gb173, 1, none⟩ = some (.int .i64 a0_1) := (blk_cell BK173.out 1).trans rfl; have hcz47_2 : w46.cell? ⟨gb173, 2, none⟩ = some (.int .i64 a0_2) := (blk_cell BK173.out 2).trans rfl; have hcz47_3 : w46.cell? ⟨gb173, 3, none⟩ = some (.int .i64 a0_3) := (blk_cell BK173.out 3).trans rfl; have hcz47_4 : w46.cell? ⟨gb173, 4, none⟩ = some (.int .u64 a0_4) := (blk_cell BK173.out 4).trans rfl; have hfz47_0 := blk_frozen BK173.out 0; have hfz47_1 := blk_frozen BK173.out 1; have hfz47_2 := blk_frozen BK173.out 2; have hfz47_3 := blk_frozen BK173.out 3; have hfz47_4 := blk_frozen BK173.out 4) | ((with_reducible refine gate_callee (f := 38) rfl ?_); refine goesL_ (some 37) rfl rfl Try.func38 (by kernel_rfl) rfl #[.agg #[.int .i64 a0_0, .int .i64 a0_1, .int .i64 a0_2, .int .i64 a0_3, .int .u64 a0_4], .int .i64 5, .int .i64 x8_2] rfl (by (try simp only [List.map_toArray, List.map_cons, List.map_nil]); first | done | rfl | (simp only [List.length_drop, List.length_take]; rfl)) ?_; (with_reducible refine (umpireref05_Cell.calls k2 a0_0 a0_1 a0_2 a0_3 a0_4 5 x8_2 t179 _ A20.out).mono ?_); rintro e w48 ⟨rfl, hb⟩; refine ⟨_, rfl, ?_⟩; have n0_ := Aside0.mk (blk_below (g := gb173) (o := .cells #[.int .i64 a0_0, .int .i64 a0_1, .int .i64 a0_2, .int .i64 a0_3, .int .u64 a0_4] 24 (0, 0)) (by (with_reducible repeat (first | refine blk_drewN ?_ _ | refine blk_drew ?_ | refine blk_alloc ?_ _)); exact BK173.out) hb); have n1_ := Aside0.mk (below_step (by repeat (first | (with_reducible first | exact HB.out | apply below_alloc | apply pw_below_drewN | apply below_drew1 | refine below_set ?_ GE173.out) | exact HB.out)) hb); clear BK173; clear HB; have BK173 := n0_; have HB := n1_; clear n0_ n1_; (try clear hb); (try clear hb2); (try clear hk); (try clear hi); have p180 : 0 ≤ (t179 : Int) := of_decide_eq_true (by first | (with_reducible assumption) | assumption); have q180 : t179 < (l1.length : Int) := of_decide_eq_true (by first | (with_reducible assumption) | assumption); obtain ⟨ad180, e180, hx180_0⟩ := Kd.at_int HR1.out t179 p180 q180; obtain rfl : ad177 = ad180 := (by injection e180); replace hx180_0 := (HB.out.cell (World.block_lt_of_cell? w _ hx180_0)).trans hx180_0; replace p180 := eq_true p180; replace q180 := eq_true q180))
                              go_roundg k2
                              case measure => have := HJ2.out; have := HK2.out; omega
                              case rel => exact ⟨(x6_2), (true), (wrap64 (x8_2 + 1)), (by first | rfl | (simp; done) | (simp [*]; done)), (by first | rfl | (simp; done) | (simp [*]; done)), (by first | rfl | (simp; done) | (simp [*]; done)), H', ⟨by have := HJ2.out; have := HK2.out; omega⟩, ⟨by (with_reducible repeat (first | refine blk_drewN ?_ _ | refine blk_drew ?_ | refine blk_alloc ?_ _)); exact BK173.out⟩, ⟨by repeat (first | (with_reducible first | exact HB.out | apply below_alloc | apply pw_below_drewN | apply below_drew1 | refine below_set ?_ GE173.out) | exact HB.out)⟩⟩
                          · replace c39 := Bool.eq_false_iff.mpr c39
                            subst c39
                            have H1 : (umpireref15_Oldest.l0 k2 l1 (rd l1 t179) true (wrap64 (x8_2 + 1)) a0_0 a0_1 a0_2 a0_3 a0_4) = some (r1, r2) := by rw [if_neg (show ¬ (false = true) by decide)] at H; exact H
                            clear H
                            have H := H1
                            clear H1
                            have H' := Aside0.mk H
                            clear H
                            have hcz49_0 : wr.cell? ⟨gb173, 0, none⟩ = some (.int .i64 a0_0) := (blk_cell BK173.out 0).trans rfl
                            have hcz49_1 : wr.cell? ⟨gb173, 1, none⟩ = some (.int .i64 a0_1) := (blk_cell BK173.out 1).trans rfl
                            have hcz49_2 : wr.cell? ⟨gb173, 2, none⟩ = some (.int .i64 a0_2) := (blk_cell BK173.out 2).trans rfl
                            have hcz49_3 : wr.cell? ⟨gb173, 3, none⟩ = some (.int .i64 a0_3) := (blk_cell BK173.out 3).trans rfl
                            have hcz49_4 : wr.cell? ⟨gb173, 4, none⟩ = some (.int .u64 a0_4) := (blk_cell BK173.out 4).trans rfl
                            have hfz49_0 := blk_frozen BK173.out 0
                            have hfz49_1 := blk_frozen BK173.out 1
                            have hfz49_2 := blk_frozen BK173.out 2
                            have hfz49_3 := blk_frozen BK173.out 3
                            have hfz49_4 := blk_frozen BK173.out 4
                            go_wp2_with (first | ((with_reducible refine gate_callee (f := 38) rfl ?_); refine goesL_ (some 30) rfl rfl Try.func38 (by kernel_rfl) rfl #[.agg #[.int .i64 a0_0, .int .i64 a0_1, .int .i64 a0_2, .int .i64 a0_3, .int .u64 a0_4], .int .i64 4, .int .i64 x8_2] rfl (by (try simp only [List.map_toArray, List.map_cons, List.map_nil]); first | done | rfl | (simp only [List.length_drop, List.length_take]; rfl)) ?_; (with_reducible refine (umpireref05_Cell.calls k2 a0_0 a0_1 a0_2 a0_3 a0_4 4 x8_2 t176 _ A16.out).mono ?_); rintro e w50 ⟨rfl, hb⟩; refine ⟨_, rfl, ?_⟩; have n0_ := Aside0.mk (blk_below (g := gb173) (o := .cells #[.int .i64 a0_0, .int .i64 a0_1, .int .i64 a0_2, .int .i64 a0_3, .int .u64 a0_4] 24 (0, 0)) (by (with_reducible repeat (first | refine blk_drewN ?_ _ | refine blk_drew ?_ | refine blk_alloc ?_ _)); exact BK173.out) hb); have n1_ := Aside0.mk (below_step (by repeat (first | (with_reducible first | exact HB.out | apply below_alloc | apply pw_below_drewN | apply below_drew1 | refine below_set ?_ GE173.out) | exact HB.out)) hb); clear BK173; clear HB; have BK173 := n0_; have HB := n1_; clear n0_ n1_; (try clear hb); (try clear hb2); (try clear hk); (try clear hi); have p177 : 0 ≤ (t176 : Int) := of_decide_eq_true (by first | (with_reducible assumption) | assumption); have q177 : t176 < (l1.length : Int) := of_decide_eq_true (by first | (with_reducible assumption) | assumption); obtain ⟨ad177, e177, hx177_0⟩ := Kd.at_int HR1.out t176 p177 q177; cases e177; replace hx177_0 := (HB.out.cell (World.block_lt_of_cell? w _ hx177_0)).trans hx177_0; replace p177 := eq_true p177; replace q177 := eq_true q177) | ((with_reducible refine gate_callee (f := 13) rfl ?_); refine goesL_ (some 33) rfl rfl Try.func13 (by kernel_rfl) rfl #[.int .u64 (rd l1 t176)] rfl (by (try simp only [List.map_toArray, List.map_cons, List.map_nil]); first | done | rfl | (simp only [List.length_drop, List.length_take]; rfl)) ?_; (with_reducible refine (umpireref01_State.calls k2 (rd l1 t176) t178 _ A19.out).mono ?_); rintro e w' ⟨rfl, ⟨nd, rfl⟩⟩; refine ⟨_, rfl, ?_⟩; have hcz51_0 : w50.cell? ⟨gb173, 0, none⟩ = some (.int .i64 a0_0) := (blk_cell BK173.out 0).trans rfl; have hcz51_1 : w50.cell? ⟨gb173, 1, none⟩ = some (.int .i64 a0_1) := (blk_cell BK173.out 1).trans rfl; have hcz51_2 : w50.cell? ⟨gb173, 2, none⟩ = some (.int .i64 a0_2) := (blk_cell BK173.out 2).trans rfl; have hcz51_3 : w50.cell? ⟨gb173, 3, none⟩ = some (.int .i64 a0_3) := (blk_cell BK173.out 3).trans rfl; have hcz51_4 : w50.cell? ⟨gb173, 4, none⟩ = some (.int .u64 a0_4) := (blk_cell BK173.out 4).trans rfl; have hfz51_0 := blk_frozen BK173.out 0; have hfz51_1 := blk_frozen BK173.out 1; have hfz51_2 := blk_frozen BK173.out 2; have hfz51_3 := blk_frozen BK173.out 3; have hfz51_4 := blk_frozen BK173.out 4) | ((with_reducible refine gate_callee (f := 38) rfl ?_); refine goesL_ (some 37) rfl rfl Try.func38 (by kernel_rfl) rfl #[.agg #[.int .i64 a0_0, .int .i64 a0_1, .int .i64 a0_2, .int .i64 a0_3, .int .u64 a0_4], .int .i64 5, .int .i64 x8_2] rfl (by (try simp only [List.map_toArray, List.map_cons, List.map_nil]); first | done | rfl | (simp only [List.length_drop, List.length_take]; rfl)) ?_; (with_reducible refine (umpireref05_Cell.calls k2 a0_0 a0_1 a0_2 a0_3 a0_4 5 x8_2 t179 _ A20.out).mono ?_); rintro e w52 ⟨rfl, hb⟩; refine ⟨_, rfl, ?_⟩; have n0_ := Aside0.mk (blk_below (g := gb173) (o := .cells #[.int .i64 a0_0, .int .i64 a0_1, .int .i64 a0_2, .int .i64 a0_3, .int .u64 a0_4] 24 (0, 0)) (by (with_reducible repeat (first | refine blk_drewN ?_ _ | refine blk_drew ?_ | refine blk_alloc ?_ _)); exact BK173.out) hb); have n1_ := Aside0.mk (below_step (by repeat (first | (with_reducible first | exact HB.out | apply below_alloc | apply pw_below_drewN | apply below_drew1 | refine below_set ?_ GE173.out) | exact HB.out)) hb); clear BK173; clear HB; have BK173 := n0_; have HB := n1_; clear n0_ n1_; (try clear hb); (try clear hb2); (try clear hk); (try clear hi); have p180 : 0 ≤ (t179 : Int) := of_decide_eq_true (by first | (with_reducible assumption) | assumption); have q180 : t179 < (l1.length : Int) := of_decide_eq_true (by first | (with_reducible assumption) | assumption); obtain ⟨ad180, e180, hx180_0⟩ := Kd.at_int HR1.out t179 p180 q180; obtain rfl : ad177 = ad180 := (by injection e180); replace hx180_0 := (HB.out.cell (World.block_lt_of_cell? w _ hx180_0)).trans hx180_0; replace p180 := eq_true p180; replace q180 := eq_true q180))
                            go_roundg k2
                            case measure => have := HJ2.out; have := HK2.out; omega
                            case rel => exact ⟨(rd l1 t179), (true), (wrap64 (x8_2 + 1)), (by first | rfl | (simp; done) | (simp [*]; done)), (by first | rfl | (simp; done) | (simp [*]; done)), (by first | rfl | (simp; done) | (simp [*]; done)), H', ⟨by have := HJ2.out; have := HK2.out; omega⟩, ⟨by (with_reducible repeat (first | refine blk_drewN ?_ _ | refine blk_drew ?_ | refine blk_alloc ?_ _)); exact BK173.out⟩, ⟨by repeat (first | (with_reducible first | exact HB.out | apply below_alloc | apply pw_below_drewN | apply below_drew1 | refine below_set ?_ GE173.out) | exact HB.out)⟩⟩
                        · rw [if_neg c38] at H
                          have c38b0 : (t178 == 3) = false := beq_eq_false_iff_ne.mpr c38
                          have c38b1 : (t178 != 3) = true := bne_iff_ne.mpr c38
                          have H' := Aside0.mk H
                          clear H
                          have hcz53_0 : wr.cell? ⟨gb173, 0, none⟩ = some (.int .i64 a0_0) := (blk_cell BK173.out 0).trans rfl
                          have hcz53_1 : wr.cell? ⟨gb173, 1, none⟩ = some (.int .i64 a0_1) := (blk_cell BK173.out 1).trans rfl
                          have hcz53_2 : wr.cell? ⟨gb173, 2, none⟩ = some (.int .i64 a0_2) := (blk_cell BK173.out 2).trans rfl
                          have hcz53_3 : wr.cell? ⟨gb173, 3, none⟩ = some (.int .i64 a0_3) := (blk_cell BK173.out 3).trans rfl
                          have hcz53_4 : wr.cell? ⟨gb173, 4, none⟩ = some (.int .u64 a0_4) := (blk_cell BK173.out 4).trans rfl
                          have hfz53_0 := blk_frozen BK173.out 0
                          have hfz53_1 := blk_frozen BK173.out 1
                          have hfz53_2 := blk_frozen BK173.out 2
                          have hfz53_3 := blk_frozen BK173.out 3
                          have hfz53_4 := blk_frozen BK173.out 4
                          go_wp2_with (first | ((with_reducible refine gate_callee (f := 38) rfl ?_); refine goesL_ (some 30) rfl rfl Try.func38 (by kernel_rfl) rfl #[.agg #[.int .i64 a0_0, .int .i64 a0_1, .int .i64 a0_2, .int .i64 a0_3, .int .u64 a0_4], .int .i64 4, .int .i64 x8_2] rfl (by (try simp only [List.map_toArray, List.map_cons, List.map_nil]); first | done | rfl | (simp only [List.length_drop, List.length_take]; rfl)) ?_; (with_reducible refine (umpireref05_Cell.calls k2 a0_0 a0_1 a0_2 a0_3 a0_4 4 x8_2 t176 _ A16.out).mono ?_); rintro e w54 ⟨rfl, hb⟩; refine ⟨_, rfl, ?_⟩; have n0_ := Aside0.mk (blk_below (g := gb173) (o := .cells #[.int .i64 a0_0, .int .i64 a0_1, .int .i64 a0_2, .int .i64 a0_3, .int .u64 a0_4] 24 (0, 0)) (by (with_reducible repeat (first | refine blk_drewN ?_ _ | refine blk_drew ?_ | refine blk_alloc ?_ _)); exact BK173.out) hb); have n1_ := Aside0.mk (below_step (by repeat (first | (with_reducible first | exact HB.out | apply below_alloc | apply pw_below_drewN | apply below_drew1 | refine below_set ?_ GE173.out) | exact HB.out)) hb); clear BK173; clear HB; have BK173 := n0_; have HB := n1_; clear n0_ n1_; (try clear hb); (try clear hb2); (try clear hk); (try clear hi); have p177 : 0 ≤ (t176 : Int) := of_decide_eq_true (by first | (with_reducible assumption) | assumption); have q177 : t176 < (l1.length : Int) := of_decide_eq_true (by first | (with_reducible assumption) | assumption); obtain ⟨ad177, e177, hx177_0⟩ := Kd.at_int HR1.out t176 p177 q177; cases e177; replace hx177_0 := (HB.out.cell (World.block_lt_of_cell? w _ hx177_0)).trans hx177_0; replace p177 := eq_true p177; replace q177 := eq_true q177) | ((with_reducible refine gate_callee (f := 13) rfl ?_); refine goesL_ (some 33) rfl rfl Try.func13 (by kernel_rfl) rfl #[.int .u64 (rd l1 t176)] rfl (by (try simp only [List.map_toArray, List.map_cons, List.map_nil]); first | done | rfl | (simp only [List.length_drop, List.length_take]; rfl)) ?_; (with_reducible refine (umpireref01_State.calls k2 (rd l1 t176) t178 _ A19.out).mono ?_); rintro e w' ⟨rfl, ⟨nd, rfl⟩⟩; refine ⟨_, rfl, ?_⟩; have hcz55_0 : w54.cell? ⟨gb173, 0, none⟩ = some (.int .i64 a0_0) := (blk_cell BK173.out 0).trans rfl; have hcz55_1 : w54.cell? ⟨gb173, 1, none⟩ = some (.int .i64 a0_1) := (blk_cell BK173.out 1).trans rfl; have hcz55_2 : w54.cell? ⟨gb173, 2, none⟩ = some (.int .i64 a0_2) := (blk_cell BK173.out 2).trans rfl; have hcz55_3 : w54.cell? ⟨gb173, 3, none⟩ = some (.int .i64 a0_3) := (blk_cell BK173.out 3).trans rfl; have hcz55_4 : w54.cell? ⟨gb173, 4, none⟩ = some (.int .u64 a0_4) := (blk_cell BK173.out 4).trans rfl; have hfz55_0 := blk_frozen BK173.out 0; have hfz55_1 := blk_frozen BK173.out 1; have hfz55_2 := blk_frozen BK173.out 2; have hfz55_3 := blk_frozen BK173.out 3; have hfz55_4 := blk_frozen BK173.out 4) | ((with_reducible refine gate_callee (f := 38) rfl ?_); refine goesL_ (some 37) rfl rfl Try.func38 (by kernel_rfl) rfl #[.agg #[.int .i64 a0_0, .int .i64 a0_1, .int .i64 a0_2, .int .i64 a0_3, .int .u64 a0_4], .int .i64 5, .int .i64 x8_2] rfl (by (try simp only [List.map_toArray, List.map_cons, List.map_nil]); first | done | rfl | (simp only [List.length_drop, List.length_take]; rfl)) ?_; (with_reducible refine (umpireref05_Cell.calls k2 a0_0 a0_1 a0_2 a0_3 a0_4 5 x8_2 t179 _ A20.out).mono ?_); rintro e w56 ⟨rfl, hb⟩; refine ⟨_, rfl, ?_⟩; have n0_ := Aside0.mk (blk_below (g := gb173) (o := .cells #[.int .i64 a0_0, .int .i64 a0_1, .int .i64 a0_2, .int .i64 a0_3, .int .u64 a0_4] 24 (0, 0)) (by (with_reducible repeat (first | refine blk_drewN ?_ _ | refine blk_drew ?_ | refine blk_alloc ?_ _)); exact BK173.out) hb); have n1_ := Aside0.mk (below_step (by repeat (first | (with_reducible first | exact HB.out | apply below_alloc | apply pw_below_drewN | apply below_drew1 | refine below_set ?_ GE173.out) | exact HB.out)) hb); clear BK173; clear HB; have BK173 := n0_; have HB := n1_; clear n0_ n1_; (try clear hb); (try clear hb2); (try clear hk); (try clear hi); have p180 : 0 ≤ (t179 : Int) := of_decide_eq_true (by first | (with_reducible assumption) | assumption); have q180 : t179 < (l1.length : Int) := of_decide_eq_true (by first | (with_reducible assumption) | assumption); obtain ⟨ad180, e180, hx180_0⟩ := Kd.at_int HR1.out t179 p180 q180; obtain rfl : ad177 = ad180 := (by injection e180); replace hx180_0 := (HB.out.cell (World.block_lt_of_cell? w _ hx180_0)).trans hx180_0; replace p180 := eq_true p180; replace q180 := eq_true q180))
                          go_roundg k2
                          case measure => have := HJ2.out; have := HK2.out; omega
                          case rel => exact ⟨(x6_2), (x7_2), (wrap64 (x8_2 + 1)), (by first | rfl | (simp; done) | (simp [*]; done)), (by first | rfl | (simp; done) | (simp [*]; done)), (by first | rfl | (simp; done) | (simp [*]; done)), H', ⟨by have := HJ2.out; have := HK2.out; omega⟩, ⟨by (with_reducible repeat (first | refine blk_drewN ?_ _ | refine blk_drew ?_ | refine blk_alloc ?_ _)); exact BK173.out⟩, ⟨by repeat (first | (with_reducible first | exact HB.out | apply below_alloc | apply pw_below_drewN | apply below_drew1 | refine below_set ?_ GE173.out) | exact HB.out)⟩⟩
                    · rw [if_neg c22] at H
                      exact absurd H (by simp)
                  · rw [if_neg c21] at H
                    exact absurd H (by simp)
                · rw [if_neg c18] at H
                  exact absurd H (by simp)
              · rw [if_neg c17] at H
                exact absurd H (by simp)
            · rw [if_neg c15] at H
              have c15b0 : decide (x8_2 < a0_1) = false := decide_eq_false c15
              clear c15
              simp only [Option.some.injEq, Prod.mk.injEq] at H
              obtain ⟨rfl, rfl⟩ := H
              have hcz57_0 : wr.cell? ⟨gb173, 0, none⟩ = some (.int .i64 a0_0) := (blk_cell BK173.out 0).trans rfl
              have hcz57_1 : wr.cell? ⟨gb173, 1, none⟩ = some (.int .i64 a0_1) := (blk_cell BK173.out 1).trans rfl
              have hcz57_2 : wr.cell? ⟨gb173, 2, none⟩ = some (.int .i64 a0_2) := (blk_cell BK173.out 2).trans rfl
              have hcz57_3 : wr.cell? ⟨gb173, 3, none⟩ = some (.int .i64 a0_3) := (blk_cell BK173.out 3).trans rfl
              have hcz57_4 : wr.cell? ⟨gb173, 4, none⟩ = some (.int .u64 a0_4) := (blk_cell BK173.out 4).trans rfl
              have hfz57_0 := blk_frozen BK173.out 0
              have hfz57_1 := blk_frozen BK173.out 1
              have hfz57_2 := blk_frozen BK173.out 2
              have hfz57_3 := blk_frozen BK173.out 3
              have hfz57_4 := blk_frozen BK173.out 4
              go_wp2
              go_ret2
              exact ⟨by first | rfl | (simp [errW_none, errW_some] <;> rfl) | (simp [*, errW_none, errW_some] <;> rfl), by repeat (first | (with_reducible first | exact HB.out | apply below_alloc | apply pw_below_drewN | apply below_drew1 | refine below_set ?_ GE173.out) | exact HB.out)⟩

-- NOT PRINTED: function 4 (umpirelaw15_AgeOldest)

end Go.Proofs.Ytbgdhahdihbpaaa.PAgeOldest
