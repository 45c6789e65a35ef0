/- The law JudgeTwo: whether any two lives meet, and whether there is a conflict from one to the other, is what the document says. No condition. -/
import Derived.Test.YthllilbmaidhgaaJLaw
import Derived.Test.YthllilbmaidhgaaOpenLife
namespace Go.Proofs.Ythllilbmaidhgaa.Ev
open Go.RowKit
set_option linter.unusedVariables false
theorem plainL_ints' {k : IntKind} : ∀ ws : List Int, plainL (ws.map (Value.int k)) = true
  | [] => rfl
  | x :: l => by simp only [List.map_cons, plainL, plain, plainL_ints' l]; rfl
theorem seen_ints {W : World} {b off len cap room : Nat} {k : IntKind} {zs : List Int} {cs : Array Value} {t : TypeId} {fr : Nat × Nat} (h1 : len ≤ cap) (h2 : zs.length = cap) (hb : W.heap[b]? = some (.cells cs t fr)) (hc : ∀ i, i < zs.length → cs[off + i]? = some (.int k (zs.getD i 0))) :
    Seen W ⟨b, room, off, .ints k (zs.take len)⟩ := by
  refine ⟨plainL_ints' _, rfl, cs, t, fr, hb, fun j v hv => ?_⟩
  simp only [Cells.list, List.getElem?_map, List.getElem?_take] at hv
  split at hv
  · rename_i hj
    have hlt : j < zs.length := by omega
    rw [List.getElem?_eq_getElem hlt] at hv
    simp at hv
    subst hv
    rw [hc j hlt, List.getD_eq_getElem?_getD, List.getElem?_eq_getElem hlt]
    rfl
  · simp at hv
theorem seen_nil {W : World} {b : Nat} {k : IntKind} {cs : Array Value} {t : TypeId} {fr : Nat × Nat} (hb : W.heap[b]? = some (.cells cs t fr)) : Seen W ⟨b, 0, 0, .ints k []⟩ :=
  ⟨rfl, rfl, cs, t, fr, hb, fun j v hv => by simp [Cells.list] at hv⟩
end Go.Proofs.Ythllilbmaidhgaa.Ev
namespace Go.Proofs.Ythllilbmaidhgaa.Pure
open Go.RowKit Go.Proofs.Ythllilbmaidhgaa.Ev Go.Proofs.Ythllilbmaidhgaa.Bound
set_option linter.unusedVariables false
set_option linter.unusedSimpArgs false
theorem jn_way_1 (b1 e1 b2 e2 : Int) : walkV (ev sumsJ3 60 4 [.agg #[.int .i64 b1, .int .i64 e1, .slice none 0 0, .slice none 0 0], .agg #[.int .i64 b2, .int .i64 e2, .slice none 0 0, .slice none 0 0]] ⟨.nil, 0⟩) [false, true, true, true, true, true, true, true, true, true, true, true, true, true, true, true, true, true, true, true, true, true, true, true, true, true, true, true, false, true, true, true, true, true, true, true, true, true, false, true] =
    some ([false, true, true, true, cdec (mf15_I ([Atom.i b1] ++ ([Atom.i e1] ++ ([] ++ ([] ++ []))) ++ ([Atom.i b2] ++ ([Atom.i e2] ++ ([] ++ ([] ++ []))) ++ []) ++ [])), true, true, true, cdec (mf15_I ([Atom.i b1] ++ ([Atom.i e1] ++ ([] ++ ([] ++ []))) ++ ([Atom.i b2] ++ ([Atom.i e2] ++ ([] ++ ([] ++ []))) ++ []) ++ [])), true, bif true then meetB b1 e1 b2 e2 == meetB b1 e1 b2 e2 else false, true, true, cdec (mf15_I ([Atom.i b2] ++ ([Atom.i e2] ++ ([] ++ ([] ++ []))) ++ ([Atom.i b1] ++ ([Atom.i e1] ++ ([] ++ ([] ++ []))) ++ []) ++ [])), true, true, true, cdec (mf15_I ([Atom.i b1] ++ ([Atom.i e1] ++ ([] ++ ([] ++ []))) ++ ([Atom.i b2] ++ ([Atom.i e2] ++ ([] ++ ([] ++ []))) ++ []) ++ [])), true, bif true then meetB b2 e2 b1 e1 == meetB b1 e1 b2 e2 else false, true, true, cdec (mf15_I ([Atom.i b1] ++ ([Atom.i e1] ++ ([] ++ ([] ++ []))) ++ ([Atom.i b2] ++ ([Atom.i e2] ++ ([] ++ ([] ++ []))) ++ []) ++ [])), meetB b1 e1 b2 e2, true, true, true, true, false, true, true, true, cdec (mf15_I ([Atom.i b1] ++ ([Atom.i e1] ++ ([] ++ ([] ++ []))) ++ ([Atom.i b2] ++ ([Atom.i e2] ++ ([] ++ ([] ++ []))) ++ []) ++ [])), meetB b1 e1 b2 e2, true, true, true, true, false, true], .bool true) := by kernel_rfl
theorem jn_way_2 (b1 e1 b2 e2 : Int) : walkV (ev sumsJ3 60 4 [.agg #[.int .i64 b1, .int .i64 e1, .slice none 0 0, .slice none 0 0], .agg #[.int .i64 b2, .int .i64 e2, .slice none 0 0, .slice none 0 0]] ⟨.nil, 0⟩) [false, true, true, true, true, true, true, true, true, true, true, true, true, true, true, true, true, true, true, true, true, true, true, false, false, false, false, false, false, true, true, true, true, false, false, false, false, false, false, true] =
    some ([false, true, true, true, cdec (mf15_I ([Atom.i b1] ++ ([Atom.i e1] ++ ([] ++ ([] ++ []))) ++ ([Atom.i b2] ++ ([Atom.i e2] ++ ([] ++ ([] ++ []))) ++ []) ++ [])), true, true, true, cdec (mf15_I ([Atom.i b1] ++ ([Atom.i e1] ++ ([] ++ ([] ++ []))) ++ ([Atom.i b2] ++ ([Atom.i e2] ++ ([] ++ ([] ++ []))) ++ []) ++ [])), true, bif true then meetB b1 e1 b2 e2 == meetB b1 e1 b2 e2 else false, true, true, cdec (mf15_I ([Atom.i b2] ++ ([Atom.i e2] ++ ([] ++ ([] ++ []))) ++ ([Atom.i b1] ++ ([Atom.i e1] ++ ([] ++ ([] ++ []))) ++ []) ++ [])), true, true, true, cdec (mf15_I ([Atom.i b1] ++ ([Atom.i e1] ++ ([] ++ ([] ++ []))) ++ ([Atom.i b2] ++ ([Atom.i e2] ++ ([] ++ ([] ++ []))) ++ []) ++ [])), true, bif true then meetB b2 e2 b1 e1 == meetB b1 e1 b2 e2 else false, true, true, cdec (mf15_I ([Atom.i b1] ++ ([Atom.i e1] ++ ([] ++ ([] ++ []))) ++ ([Atom.i b2] ++ ([Atom.i e2] ++ ([] ++ ([] ++ []))) ++ []) ++ [])), meetB b1 e1 b2 e2, false, false, false, false, false, true, true, true, cdec (mf15_I ([Atom.i b1] ++ ([Atom.i e1] ++ ([] ++ ([] ++ []))) ++ ([Atom.i b2] ++ ([Atom.i e2] ++ ([] ++ ([] ++ []))) ++ []) ++ [])), meetB b1 e1 b2 e2, false, false, false, false, false, true], .bool true) := by kernel_rfl
theorem jn_true (b1 e1 b2 e2 : Int) : outV (ev sumsJ3 60 4 [.agg #[.int .i64 b1, .int .i64 e1, .slice none 0 0, .slice none 0 0], .agg #[.int .i64 b2, .int .i64 e2, .slice none 0 0, .slice none 0 0]] ⟨.nil, 0⟩) = some (.bool true) := by
  have hm := meet_comm b2 e2 b1 e1
  have q0 : cdec (mf15_I ([Atom.i b1] ++ ([Atom.i e1] ++ ([] ++ ([] ++ []))) ++ ([Atom.i b2] ++ ([Atom.i e2] ++ ([] ++ ([] ++ []))) ++ []) ++ [])) = true := cdec_true trivial
  have q1 : cdec (mf15_I ([Atom.i b2] ++ ([Atom.i e2] ++ ([] ++ ([] ++ []))) ++ ([Atom.i b1] ++ ([Atom.i e1] ++ ([] ++ ([] ++ []))) ++ []) ++ [])) = true := cdec_true trivial
  rcases bool2 (meetB b1 e1 b2 e2) with h | h
  · exact outV_walk (jn_way_1 b1 e1 b2 e2) (by simp only [q0, q1, hm, beq_self_eq_true, cond_true, cond_false, h])
  · exact outV_walk (jn_way_2 b1 e1 b2 e2) (by simp only [q0, q1, hm, beq_self_eq_true, cond_true, cond_false, h])
theorem walkJudgeTwo (W : World) (b1 e1 : Int) (A1 : Option Addr) (n1 c1 : Nat) (z1 : List Int) (A2 : Option Addr) (n2 c2 : Nat) (z2 : List Int) (w1 : Open.IsWin .i64 W A1 n1 c1 z1) (w2 : Open.IsWin .i64 W A2 n2 c2 z2) (b2 e2 : Int) (A3 : Option Addr) (n3 c3 : Nat) (z3 : List Int) (A4 : Option Addr) (n4 c4 : Nat) (z4 : List Int) (w3 : Open.IsWin .i64 W A3 n3 c3 z3) (w4 : Open.IsWin .i64 W A4 n4 c4 z4) :
    Calls Try.prog 4 #[.agg #[.int .i64 b1, .int .i64 e1, .slice A1 n1 c1, .slice A2 n2 c2], .agg #[.int .i64 b2, .int .i64 e2, .slice A3 n3 c3, .slice A4 n4 c4]] W fun e W' => e = .returned (.bool true) ∧ Below W.heap.size W W' := by
  rcases w1 with ⟨rfl, rfl, rfl, rfl⟩ | ⟨p1, off1, cs1, t1, fr1, rfl, g1, m1, hz1, hb1, hc1, _⟩
  · rcases w2 with ⟨rfl, rfl, rfl, rfl⟩ | ⟨p2, off2, cs2, t2, fr2, rfl, g2, m2, hz2, hb2, hc2, _⟩
    · rcases w3 with ⟨rfl, rfl, rfl, rfl⟩ | ⟨p3, off3, cs3, t3, fr3, rfl, g3, m3, hz3, hb3, hc3, _⟩
      · rcases w4 with ⟨rfl, rfl, rfl, rfl⟩ | ⟨p4, off4, cs4, t4, fr4, rfl, g4, m4, hz4, hb4, hc4, _⟩
        · exact calls_plain sumsJ3_ok 60 _ _ _ rfl rfl (jn_true b1 e1 b2 e2) W
        · have := calls_wins sumsJ3_ok 60 4 [⟨p4, 0, 0, .ints .i64 []⟩, ⟨p4, 0, 0, .ints .i64 []⟩, ⟨p4, 0, 0, .ints .i64 []⟩, ⟨p4, c4 - n4, off4, .ints .i64 (z4.take n4)⟩] [.agg #[.int .i64 b1, .int .i64 e1, .slice none 0 0, .slice none 0 0], .agg #[.int .i64 b2, .int .i64 e2, .slice none 0 0, .slice (some ⟨3, 0, none⟩) n4 n4]] (.bool true) W (fun w hw => by
            simp only [List.mem_cons, List.not_mem_nil, or_false] at hw
            rcases hw with rfl | rfl | rfl | rfl
            · exact seen_nil hb4
            · exact seen_nil hb4
            · exact seen_nil hb4
            · exact seen_ints g4 hz4 hb4 hc4) (by simp [scL, sc, scA]) rfl (jt14_true b1 e1 b2 e2 0 0 0 0 0 0 n4 n4 [] [] [] (z4.take n4) rfl (by simp; omega) (by decide) (by omega))
          have e : (⟨concL (winV [⟨p4, 0, 0, .ints .i64 []⟩, ⟨p4, 0, 0, .ints .i64 []⟩, ⟨p4, 0, 0, .ints .i64 []⟩, ⟨p4, c4 - n4, off4, .ints .i64 (z4.take n4)⟩]) [.agg #[.int .i64 b1, .int .i64 e1, .slice none 0 0, .slice none 0 0], .agg #[.int .i64 b2, .int .i64 e2, .slice none 0 0, .slice (some ⟨3, 0, none⟩) n4 n4]]⟩ : Array Value) = #[.agg #[.int .i64 b1, .int .i64 e1, .slice none 0 0, .slice none 0 0], .agg #[.int .i64 b2, .int .i64 e2, .slice none 0 0, .slice (some ⟨p4, off4, none⟩) n4 c4]] := by
            simp [concL, conc, concA, winV]
            omega
          rw [e] at this
          exact this
      · rcases w4 with ⟨rfl, rfl, rfl, rfl⟩ | ⟨p4, off4, cs4, t4, fr4, rfl, g4, m4, hz4, hb4, hc4, _⟩
        · have := calls_wins sumsJ3_ok 60 4 [⟨p3, 0, 0, .ints .i64 []⟩, ⟨p3, 0, 0, .ints .i64 []⟩, ⟨p3, c3 - n3, off3, .ints .i64 (z3.take n3)⟩, ⟨p3, 0, 0, .ints .i64 []⟩] [.agg #[.int .i64 b1, .int .i64 e1, .slice none 0 0, .slice none 0 0], .agg #[.int .i64 b2, .int .i64 e2, .slice (some ⟨2, 0, none⟩) n3 n3, .slice none 0 0]] (.bool true) W (fun w hw => by
            simp only [List.mem_cons, List.not_mem_nil, or_false] at hw
            rcases hw with rfl | rfl | rfl | rfl
            · exact seen_nil hb3
            · exact seen_nil hb3
            · exact seen_ints g3 hz3 hb3 hc3
            · exact seen_nil hb3) (by simp [scL, sc, scA]) rfl (jt13_true b1 e1 b2 e2 0 0 0 0 n3 n3 0 0 [] [] (z3.take n3) [] rfl rfl (by decide) (by decide))
          have e : (⟨concL (winV [⟨p3, 0, 0, .ints .i64 []⟩, ⟨p3, 0, 0, .ints .i64 []⟩, ⟨p3, c3 - n3, off3, .ints .i64 (z3.take n3)⟩, ⟨p3, 0, 0, .ints .i64 []⟩]) [.agg #[.int .i64 b1, .int .i64 e1, .slice none 0 0, .slice none 0 0], .agg #[.int .i64 b2, .int .i64 e2, .slice (some ⟨2, 0, none⟩) n3 n3, .slice none 0 0]]⟩ : Array Value) = #[.agg #[.int .i64 b1, .int .i64 e1, .slice none 0 0, .slice none 0 0], .agg #[.int .i64 b2, .int .i64 e2, .slice (some ⟨p3, off3, none⟩) n3 c3, .slice none 0 0]] := by
            simp [concL, conc, concA, winV]
            omega
          rw [e] at this
          exact this
        · have := calls_wins sumsJ3_ok 60 4 [⟨p3, 0, 0, .ints .i64 []⟩, ⟨p3, 0, 0, .ints .i64 []⟩, ⟨p3, c3 - n3, off3, .ints .i64 (z3.take n3)⟩, ⟨p4, c4 - n4, off4, .ints .i64 (z4.take n4)⟩] [.agg #[.int .i64 b1, .int .i64 e1, .slice none 0 0, .slice none 0 0], .agg #[.int .i64 b2, .int .i64 e2, .slice (some ⟨2, 0, none⟩) n3 n3, .slice (some ⟨3, 0, none⟩) n4 n4]] (.bool true) W (fun w hw => by
            simp only [List.mem_cons, List.not_mem_nil, or_false] at hw
            rcases hw with rfl | rfl | rfl | rfl
            · exact seen_nil hb3
            · exact seen_nil hb3
            · exact seen_ints g3 hz3 hb3 hc3
            · exact seen_ints g4 hz4 hb4 hc4) (by simp [scL, sc, scA]) rfl (jt12_true b1 e1 b2 e2 0 0 0 0 n3 n3 n4 n4 [] [] (z3.take n3) (z4.take n4) rfl (by simp; omega) (by decide) (by omega))
          have e : (⟨concL (winV [⟨p3, 0, 0, .ints .i64 []⟩, ⟨p3, 0, 0, .ints .i64 []⟩, ⟨p3, c3 - n3, off3, .ints .i64 (z3.take n3)⟩, ⟨p4, c4 - n4, off4, .ints .i64 (z4.take n4)⟩]) [.agg #[.int .i64 b1, .int .i64 e1, .slice none 0 0, .slice none 0 0], .agg #[.int .i64 b2, .int .i64 e2, .slice (some ⟨2, 0, none⟩) n3 n3, .slice (some ⟨3, 0, none⟩) n4 n4]]⟩ : Array Value) = #[.agg #[.int .i64 b1, .int .i64 e1, .slice none 0 0, .slice none 0 0], .agg #[.int .i64 b2, .int .i64 e2, .slice (some ⟨p3, off3, none⟩) n3 c3, .slice (some ⟨p4, off4, none⟩) n4 c4]] := by
            simp [concL, conc, concA, winV]
            omega
          rw [e] at this
          exact this
    · rcases w3 with ⟨rfl, rfl, rfl, rfl⟩ | ⟨p3, off3, cs3, t3, fr3, rfl, g3, m3, hz3, hb3, hc3, _⟩
      · rcases w4 with ⟨rfl, rfl, rfl, rfl⟩ | ⟨p4, off4, cs4, t4, fr4, rfl, g4, m4, hz4, hb4, hc4, _⟩
        · have := calls_wins sumsJ3_ok 60 4 [⟨p2, 0, 0, .ints .i64 []⟩, ⟨p2, c2 - n2, off2, .ints .i64 (z2.take n2)⟩, ⟨p2, 0, 0, .ints .i64 []⟩, ⟨p2, 0, 0, .ints .i64 []⟩] [.agg #[.int .i64 b1, .int .i64 e1, .slice none 0 0, .slice (some ⟨1, 0, none⟩) n2 n2], .agg #[.int .i64 b2, .int .i64 e2, .slice none 0 0, .slice none 0 0]] (.bool true) W (fun w hw => by
            simp only [List.mem_cons, List.not_mem_nil, or_false] at hw
            rcases hw with rfl | rfl | rfl | rfl
            · exact seen_nil hb2
            · exact seen_ints g2 hz2 hb2 hc2
            · exact seen_nil hb2
            · exact seen_nil hb2) (by simp [scL, sc, scA]) rfl (jt11_true b1 e1 b2 e2 0 0 n2 n2 0 0 0 0 [] (z2.take n2) [] [] rfl rfl (by decide) (by decide))
          have e : (⟨concL (winV [⟨p2, 0, 0, .ints .i64 []⟩, ⟨p2, c2 - n2, off2, .ints .i64 (z2.take n2)⟩, ⟨p2, 0, 0, .ints .i64 []⟩, ⟨p2, 0, 0, .ints .i64 []⟩]) [.agg #[.int .i64 b1, .int .i64 e1, .slice none 0 0, .slice (some ⟨1, 0, none⟩) n2 n2], .agg #[.int .i64 b2, .int .i64 e2, .slice none 0 0, .slice none 0 0]]⟩ : Array Value) = #[.agg #[.int .i64 b1, .int .i64 e1, .slice none 0 0, .slice (some ⟨p2, off2, none⟩) n2 c2], .agg #[.int .i64 b2, .int .i64 e2, .slice none 0 0, .slice none 0 0]] := by
            simp [concL, conc, concA, winV]
            omega
          rw [e] at this
          exact this
        · have := calls_wins sumsJ3_ok 60 4 [⟨p2, 0, 0, .ints .i64 []⟩, ⟨p2, c2 - n2, off2, .ints .i64 (z2.take n2)⟩, ⟨p2, 0, 0, .ints .i64 []⟩, ⟨p4, c4 - n4, off4, .ints .i64 (z4.take n4)⟩] [.agg #[.int .i64 b1, .int .i64 e1, .slice none 0 0, .slice (some ⟨1, 0, none⟩) n2 n2], .agg #[.int .i64 b2, .int .i64 e2, .slice none 0 0, .slice (some ⟨3, 0, none⟩) n4 n4]] (.bool true) W (fun w hw => by
            simp only [List.mem_cons, List.not_mem_nil, or_false] at hw
            rcases hw with rfl | rfl | rfl | rfl
            · exact seen_nil hb2
            · exact seen_ints g2 hz2 hb2 hc2
            · exact seen_nil hb2
            · exact seen_ints g4 hz4 hb4 hc4) (by simp [scL, sc, scA]) rfl (jt10_true b1 e1 b2 e2 0 0 n2 n2 0 0 n4 n4 [] (z2.take n2) [] (z4.take n4) rfl (by simp; omega) (by decide) (by omega))
          have e : (⟨concL (winV [⟨p2, 0, 0, .ints .i64 []⟩, ⟨p2, c2 - n2, off2, .ints .i64 (z2.take n2)⟩, ⟨p2, 0, 0, .ints .i64 []⟩, ⟨p4, c4 - n4, off4, .ints .i64 (z4.take n4)⟩]) [.agg #[.int .i64 b1, .int .i64 e1, .slice none 0 0, .slice (some ⟨1, 0, none⟩) n2 n2], .agg #[.int .i64 b2, .int .i64 e2, .slice none 0 0, .slice (some ⟨3, 0, none⟩) n4 n4]]⟩ : Array Value) = #[.agg #[.int .i64 b1, .int .i64 e1, .slice none 0 0, .slice (some ⟨p2, off2, none⟩) n2 c2], .agg #[.int .i64 b2, .int .i64 e2, .slice none 0 0, .slice (some ⟨p4, off4, none⟩) n4 c4]] := by
            simp [concL, conc, concA, winV]
            omega
          rw [e] at this
          exact this
      · rcases w4 with ⟨rfl, rfl, rfl, rfl⟩ | ⟨p4, off4, cs4, t4, fr4, rfl, g4, m4, hz4, hb4, hc4, _⟩
        · have := calls_wins sumsJ3_ok 60 4 [⟨p2, 0, 0, .ints .i64 []⟩, ⟨p2, c2 - n2, off2, .ints .i64 (z2.take n2)⟩, ⟨p3, c3 - n3, off3, .ints .i64 (z3.take n3)⟩, ⟨p2, 0, 0, .ints .i64 []⟩] [.agg #[.int .i64 b1, .int .i64 e1, .slice none 0 0, .slice (some ⟨1, 0, none⟩) n2 n2], .agg #[.int .i64 b2, .int .i64 e2, .slice (some ⟨2, 0, none⟩) n3 n3, .slice none 0 0]] (.bool true) W (fun w hw => by
            simp only [List.mem_cons, List.not_mem_nil, or_false] at hw
            rcases hw with rfl | rfl | rfl | rfl
            · exact seen_nil hb2
            · exact seen_ints g2 hz2 hb2 hc2
            · exact seen_ints g3 hz3 hb3 hc3
            · exact seen_nil hb2) (by simp [scL, sc, scA]) rfl (jt9_true b1 e1 b2 e2 0 0 n2 n2 n3 n3 0 0 [] (z2.take n2) (z3.take n3) [] rfl rfl (by decide) (by decide))
          have e : (⟨concL (winV [⟨p2, 0, 0, .ints .i64 []⟩, ⟨p2, c2 - n2, off2, .ints .i64 (z2.take n2)⟩, ⟨p3, c3 - n3, off3, .ints .i64 (z3.take n3)⟩, ⟨p2, 0, 0, .ints .i64 []⟩]) [.agg #[.int .i64 b1, .int .i64 e1, .slice none 0 0, .slice (some ⟨1, 0, none⟩) n2 n2], .agg #[.int .i64 b2, .int .i64 e2, .slice (some ⟨2, 0, none⟩) n3 n3, .slice none 0 0]]⟩ : Array Value) = #[.agg #[.int .i64 b1, .int .i64 e1, .slice none 0 0, .slice (some ⟨p2, off2, none⟩) n2 c2], .agg #[.int .i64 b2, .int .i64 e2, .slice (some ⟨p3, off3, none⟩) n3 c3, .slice none 0 0]] := by
            simp [concL, conc, concA, winV]
            omega
          rw [e] at this
          exact this
        · have := calls_wins sumsJ3_ok 60 4 [⟨p2, 0, 0, .ints .i64 []⟩, ⟨p2, c2 - n2, off2, .ints .i64 (z2.take n2)⟩, ⟨p3, c3 - n3, off3, .ints .i64 (z3.take n3)⟩, ⟨p4, c4 - n4, off4, .ints .i64 (z4.take n4)⟩] [.agg #[.int .i64 b1, .int .i64 e1, .slice none 0 0, .slice (some ⟨1, 0, none⟩) n2 n2], .agg #[.int .i64 b2, .int .i64 e2, .slice (some ⟨2, 0, none⟩) n3 n3, .slice (some ⟨3, 0, none⟩) n4 n4]] (.bool true) W (fun w hw => by
            simp only [List.mem_cons, List.not_mem_nil, or_false] at hw
            rcases hw with rfl | rfl | rfl | rfl
            · exact seen_nil hb2
            · exact seen_ints g2 hz2 hb2 hc2
            · exact seen_ints g3 hz3 hb3 hc3
            · exact seen_ints g4 hz4 hb4 hc4) (by simp [scL, sc, scA]) rfl (jt8_true b1 e1 b2 e2 0 0 n2 n2 n3 n3 n4 n4 [] (z2.take n2) (z3.take n3) (z4.take n4) rfl (by simp; omega) (by decide) (by omega))
          have e : (⟨concL (winV [⟨p2, 0, 0, .ints .i64 []⟩, ⟨p2, c2 - n2, off2, .ints .i64 (z2.take n2)⟩, ⟨p3, c3 - n3, off3, .ints .i64 (z3.take n3)⟩, ⟨p4, c4 - n4, off4, .ints .i64 (z4.take n4)⟩]) [.agg #[.int .i64 b1, .int .i64 e1, .slice none 0 0, .slice (some ⟨1, 0, none⟩) n2 n2], .agg #[.int .i64 b2, .int .i64 e2, .slice (some ⟨2, 0, none⟩) n3 n3, .slice (some ⟨3, 0, none⟩) n4 n4]]⟩ : Array Value) = #[.agg #[.int .i64 b1, .int .i64 e1, .slice none 0 0, .slice (some ⟨p2, off2, none⟩) n2 c2], .agg #[.int .i64 b2, .int .i64 e2, .slice (some ⟨p3, off3, none⟩) n3 c3, .slice (some ⟨p4, off4, none⟩) n4 c4]] := by
            simp [concL, conc, concA, winV]
            omega
          rw [e] at this
          exact this
  · rcases w2 with ⟨rfl, rfl, rfl, rfl⟩ | ⟨p2, off2, cs2, t2, fr2, rfl, g2, m2, hz2, hb2, hc2, _⟩
    · rcases w3 with ⟨rfl, rfl, rfl, rfl⟩ | ⟨p3, off3, cs3, t3, fr3, rfl, g3, m3, hz3, hb3, hc3, _⟩
      · rcases w4 with ⟨rfl, rfl, rfl, rfl⟩ | ⟨p4, off4, cs4, t4, fr4, rfl, g4, m4, hz4, hb4, hc4, _⟩
        · have := calls_wins sumsJ3_ok 60 4 [⟨p1, c1 - n1, off1, .ints .i64 (z1.take n1)⟩, ⟨p1, 0, 0, .ints .i64 []⟩, ⟨p1, 0, 0, .ints .i64 []⟩, ⟨p1, 0, 0, .ints .i64 []⟩] [.agg #[.int .i64 b1, .int .i64 e1, .slice (some ⟨0, 0, none⟩) n1 n1, .slice none 0 0], .agg #[.int .i64 b2, .int .i64 e2, .slice none 0 0, .slice none 0 0]] (.bool true) W (fun w hw => by
            simp only [List.mem_cons, List.not_mem_nil, or_false] at hw
            rcases hw with rfl | rfl | rfl | rfl
            · exact seen_ints g1 hz1 hb1 hc1
            · exact seen_nil hb1
            · exact seen_nil hb1
            · exact seen_nil hb1) (by simp [scL, sc, scA]) rfl (jt7_true b1 e1 b2 e2 n1 n1 0 0 0 0 0 0 (z1.take n1) [] [] [] (by simp; omega) rfl (by omega) (by decide))
          have e : (⟨concL (winV [⟨p1, c1 - n1, off1, .ints .i64 (z1.take n1)⟩, ⟨p1, 0, 0, .ints .i64 []⟩, ⟨p1, 0, 0, .ints .i64 []⟩, ⟨p1, 0, 0, .ints .i64 []⟩]) [.agg #[.int .i64 b1, .int .i64 e1, .slice (some ⟨0, 0, none⟩) n1 n1, .slice none 0 0], .agg #[.int .i64 b2, .int .i64 e2, .slice none 0 0, .slice none 0 0]]⟩ : Array Value) = #[.agg #[.int .i64 b1, .int .i64 e1, .slice (some ⟨p1, off1, none⟩) n1 c1, .slice none 0 0], .agg #[.int .i64 b2, .int .i64 e2, .slice none 0 0, .slice none 0 0]] := by
            simp [concL, conc, concA, winV]
            omega
          rw [e] at this
          exact this
        · have := calls_wins sumsJ3_ok 60 4 [⟨p1, c1 - n1, off1, .ints .i64 (z1.take n1)⟩, ⟨p1, 0, 0, .ints .i64 []⟩, ⟨p1, 0, 0, .ints .i64 []⟩, ⟨p4, c4 - n4, off4, .ints .i64 (z4.take n4)⟩] [.agg #[.int .i64 b1, .int .i64 e1, .slice (some ⟨0, 0, none⟩) n1 n1, .slice none 0 0], .agg #[.int .i64 b2, .int .i64 e2, .slice none 0 0, .slice (some ⟨3, 0, none⟩) n4 n4]] (.bool true) W (fun w hw => by
            simp only [List.mem_cons, List.not_mem_nil, or_false] at hw
            rcases hw with rfl | rfl | rfl | rfl
            · exact seen_ints g1 hz1 hb1 hc1
            · exact seen_nil hb1
            · exact seen_nil hb1
            · exact seen_ints g4 hz4 hb4 hc4) (by simp [scL, sc, scA]) rfl (jt6_true b1 e1 b2 e2 n1 n1 0 0 0 0 n4 n4 (z1.take n1) [] [] (z4.take n4) (by simp; omega) (by simp; omega) (by omega) (by omega))
          have e : (⟨concL (winV [⟨p1, c1 - n1, off1, .ints .i64 (z1.take n1)⟩, ⟨p1, 0, 0, .ints .i64 []⟩, ⟨p1, 0, 0, .ints .i64 []⟩, ⟨p4, c4 - n4, off4, .ints .i64 (z4.take n4)⟩]) [.agg #[.int .i64 b1, .int .i64 e1, .slice (some ⟨0, 0, none⟩) n1 n1, .slice none 0 0], .agg #[.int .i64 b2, .int .i64 e2, .slice none 0 0, .slice (some ⟨3, 0, none⟩) n4 n4]]⟩ : Array Value) = #[.agg #[.int .i64 b1, .int .i64 e1, .slice (some ⟨p1, off1, none⟩) n1 c1, .slice none 0 0], .agg #[.int .i64 b2, .int .i64 e2, .slice none 0 0, .slice (some ⟨p4, off4, none⟩) n4 c4]] := by
            simp [concL, conc, concA, winV]
            omega
          rw [e] at this
          exact this
      · rcases w4 with ⟨rfl, rfl, rfl, rfl⟩ | ⟨p4, off4, cs4, t4, fr4, rfl, g4, m4, hz4, hb4, hc4, _⟩
        · have := calls_wins sumsJ3_ok 60 4 [⟨p1, c1 - n1, off1, .ints .i64 (z1.take n1)⟩, ⟨p1, 0, 0, .ints .i64 []⟩, ⟨p3, c3 - n3, off3, .ints .i64 (z3.take n3)⟩, ⟨p1, 0, 0, .ints .i64 []⟩] [.agg #[.int .i64 b1, .int .i64 e1, .slice (some ⟨0, 0, none⟩) n1 n1, .slice none 0 0], .agg #[.int .i64 b2, .int .i64 e2, .slice (some ⟨2, 0, none⟩) n3 n3, .slice none 0 0]] (.bool true) W (fun w hw => by
            simp only [List.mem_cons, List.not_mem_nil, or_false] at hw
            rcases hw with rfl | rfl | rfl | rfl
            · exact seen_ints g1 hz1 hb1 hc1
            · exact seen_nil hb1
            · exact seen_ints g3 hz3 hb3 hc3
            · exact seen_nil hb1) (by simp [scL, sc, scA]) rfl (jt5_true b1 e1 b2 e2 n1 n1 0 0 n3 n3 0 0 (z1.take n1) [] (z3.take n3) [] (by simp; omega) rfl (by omega) (by decide))
          have e : (⟨concL (winV [⟨p1, c1 - n1, off1, .ints .i64 (z1.take n1)⟩, ⟨p1, 0, 0, .ints .i64 []⟩, ⟨p3, c3 - n3, off3, .ints .i64 (z3.take n3)⟩, ⟨p1, 0, 0, .ints .i64 []⟩]) [.agg #[.int .i64 b1, .int .i64 e1, .slice (some ⟨0, 0, none⟩) n1 n1, .slice none 0 0], .agg #[.int .i64 b2, .int .i64 e2, .slice (some ⟨2, 0, none⟩) n3 n3, .slice none 0 0]]⟩ : Array Value) = #[.agg #[.int .i64 b1, .int .i64 e1, .slice (some ⟨p1, off1, none⟩) n1 c1, .slice none 0 0], .agg #[.int .i64 b2, .int .i64 e2, .slice (some ⟨p3, off3, none⟩) n3 c3, .slice none 0 0]] := by
            simp [concL, conc, concA, winV]
            omega
          rw [e] at this
          exact this
        · have := calls_wins sumsJ3_ok 60 4 [⟨p1, c1 - n1, off1, .ints .i64 (z1.take n1)⟩, ⟨p1, 0, 0, .ints .i64 []⟩, ⟨p3, c3 - n3, off3, .ints .i64 (z3.take n3)⟩, ⟨p4, c4 - n4, off4, .ints .i64 (z4.take n4)⟩] [.agg #[.int .i64 b1, .int .i64 e1, .slice (some ⟨0, 0, none⟩) n1 n1, .slice none 0 0], .agg #[.int .i64 b2, .int .i64 e2, .slice (some ⟨2, 0, none⟩) n3 n3, .slice (some ⟨3, 0, none⟩) n4 n4]] (.bool true) W (fun w hw => by
            simp only [List.mem_cons, List.not_mem_nil, or_false] at hw
            rcases hw with rfl | rfl | rfl | rfl
            · exact seen_ints g1 hz1 hb1 hc1
            · exact seen_nil hb1
            · exact seen_ints g3 hz3 hb3 hc3
            · exact seen_ints g4 hz4 hb4 hc4) (by simp [scL, sc, scA]) rfl (jt4_true b1 e1 b2 e2 n1 n1 0 0 n3 n3 n4 n4 (z1.take n1) [] (z3.take n3) (z4.take n4) (by simp; omega) (by simp; omega) (by omega) (by omega))
          have e : (⟨concL (winV [⟨p1, c1 - n1, off1, .ints .i64 (z1.take n1)⟩, ⟨p1, 0, 0, .ints .i64 []⟩, ⟨p3, c3 - n3, off3, .ints .i64 (z3.take n3)⟩, ⟨p4, c4 - n4, off4, .ints .i64 (z4.take n4)⟩]) [.agg #[.int .i64 b1, .int .i64 e1, .slice (some ⟨0, 0, none⟩) n1 n1, .slice none 0 0], .agg #[.int .i64 b2, .int .i64 e2, .slice (some ⟨2, 0, none⟩) n3 n3, .slice (some ⟨3, 0, none⟩) n4 n4]]⟩ : Array Value) = #[.agg #[.int .i64 b1, .int .i64 e1, .slice (some ⟨p1, off1, none⟩) n1 c1, .slice none 0 0], .agg #[.int .i64 b2, .int .i64 e2, .slice (some ⟨p3, off3, none⟩) n3 c3, .slice (some ⟨p4, off4, none⟩) n4 c4]] := by
            simp [concL, conc, concA, winV]
            omega
          rw [e] at this
          exact this
    · rcases w3 with ⟨rfl, rfl, rfl, rfl⟩ | ⟨p3, off3, cs3, t3, fr3, rfl, g3, m3, hz3, hb3, hc3, _⟩
      · rcases w4 with ⟨rfl, rfl, rfl, rfl⟩ | ⟨p4, off4, cs4, t4, fr4, rfl, g4, m4, hz4, hb4, hc4, _⟩
        · have := calls_wins sumsJ3_ok 60 4 [⟨p1, c1 - n1, off1, .ints .i64 (z1.take n1)⟩, ⟨p2, c2 - n2, off2, .ints .i64 (z2.take n2)⟩, ⟨p1, 0, 0, .ints .i64 []⟩, ⟨p1, 0, 0, .ints .i64 []⟩] [.agg #[.int .i64 b1, .int .i64 e1, .slice (some ⟨0, 0, none⟩) n1 n1, .slice (some ⟨1, 0, none⟩) n2 n2], .agg #[.int .i64 b2, .int .i64 e2, .slice none 0 0, .slice none 0 0]] (.bool true) W (fun w hw => by
            simp only [List.mem_cons, List.not_mem_nil, or_false] at hw
            rcases hw with rfl | rfl | rfl | rfl
            · exact seen_ints g1 hz1 hb1 hc1
            · exact seen_ints g2 hz2 hb2 hc2
            · exact seen_nil hb1
            · exact seen_nil hb1) (by simp [scL, sc, scA]) rfl (jt3_true b1 e1 b2 e2 n1 n1 n2 n2 0 0 0 0 (z1.take n1) (z2.take n2) [] [] (by simp; omega) rfl (by omega) (by decide))
          have e : (⟨concL (winV [⟨p1, c1 - n1, off1, .ints .i64 (z1.take n1)⟩, ⟨p2, c2 - n2, off2, .ints .i64 (z2.take n2)⟩, ⟨p1, 0, 0, .ints .i64 []⟩, ⟨p1, 0, 0, .ints .i64 []⟩]) [.agg #[.int .i64 b1, .int .i64 e1, .slice (some ⟨0, 0, none⟩) n1 n1, .slice (some ⟨1, 0, none⟩) n2 n2], .agg #[.int .i64 b2, .int .i64 e2, .slice none 0 0, .slice none 0 0]]⟩ : Array Value) = #[.agg #[.int .i64 b1, .int .i64 e1, .slice (some ⟨p1, off1, none⟩) n1 c1, .slice (some ⟨p2, off2, none⟩) n2 c2], .agg #[.int .i64 b2, .int .i64 e2, .slice none 0 0, .slice none 0 0]] := by
            simp [concL, conc, concA, winV]
            omega
          rw [e] at this
          exact this
        · have := calls_wins sumsJ3_ok 60 4 [⟨p1, c1 - n1, off1, .ints .i64 (z1.take n1)⟩, ⟨p2, c2 - n2, off2, .ints .i64 (z2.take n2)⟩, ⟨p1, 0, 0, .ints .i64 []⟩, ⟨p4, c4 - n4, off4, .ints .i64 (z4.take n4)⟩] [.agg #[.int .i64 b1, .int .i64 e1, .slice (some ⟨0, 0, none⟩) n1 n1, .slice (some ⟨1, 0, none⟩) n2 n2], .agg #[.int .i64 b2, .int .i64 e2, .slice none 0 0, .slice (some ⟨3, 0, none⟩) n4 n4]] (.bool true) W (fun w hw => by
            simp only [List.mem_cons, List.not_mem_nil, or_false] at hw
            rcases hw with rfl | rfl | rfl | rfl
            · exact seen_ints g1 hz1 hb1 hc1
            · exact seen_ints g2 hz2 hb2 hc2
            · exact seen_nil hb1
            · exact seen_ints g4 hz4 hb4 hc4) (by simp [scL, sc, scA]) rfl (jt2_true b1 e1 b2 e2 n1 n1 n2 n2 0 0 n4 n4 (z1.take n1) (z2.take n2) [] (z4.take n4) (by simp; omega) (by simp; omega) (by omega) (by omega))
          have e : (⟨concL (winV [⟨p1, c1 - n1, off1, .ints .i64 (z1.take n1)⟩, ⟨p2, c2 - n2, off2, .ints .i64 (z2.take n2)⟩, ⟨p1, 0, 0, .ints .i64 []⟩, ⟨p4, c4 - n4, off4, .ints .i64 (z4.take n4)⟩]) [.agg #[.int .i64 b1, .int .i64 e1, .slice (some ⟨0, 0, none⟩) n1 n1, .slice (some ⟨1, 0, none⟩) n2 n2], .agg #[.int .i64 b2, .int .i64 e2, .slice none 0 0, .slice (some ⟨3, 0, none⟩) n4 n4]]⟩ : Array Value) = #[.agg #[.int .i64 b1, .int .i64 e1, .slice (some ⟨p1, off1, none⟩) n1 c1, .slice (some ⟨p2, off2, none⟩) n2 c2], .agg #[.int .i64 b2, .int .i64 e2, .slice none 0 0, .slice (some ⟨p4, off4, none⟩) n4 c4]] := by
            simp [concL, conc, concA, winV]
            omega
          rw [e] at this
          exact this
      · rcases w4 with ⟨rfl, rfl, rfl, rfl⟩ | ⟨p4, off4, cs4, t4, fr4, rfl, g4, m4, hz4, hb4, hc4, _⟩
        · have := calls_wins sumsJ3_ok 60 4 [⟨p1, c1 - n1, off1, .ints .i64 (z1.take n1)⟩, ⟨p2, c2 - n2, off2, .ints .i64 (z2.take n2)⟩, ⟨p3, c3 - n3, off3, .ints .i64 (z3.take n3)⟩, ⟨p1, 0, 0, .ints .i64 []⟩] [.agg #[.int .i64 b1, .int .i64 e1, .slice (some ⟨0, 0, none⟩) n1 n1, .slice (some ⟨1, 0, none⟩) n2 n2], .agg #[.int .i64 b2, .int .i64 e2, .slice (some ⟨2, 0, none⟩) n3 n3, .slice none 0 0]] (.bool true) W (fun w hw => by
            simp only [List.mem_cons, List.not_mem_nil, or_false] at hw
            rcases hw with rfl | rfl | rfl | rfl
            · exact seen_ints g1 hz1 hb1 hc1
            · exact seen_ints g2 hz2 hb2 hc2
            · exact seen_ints g3 hz3 hb3 hc3
            · exact seen_nil hb1) (by simp [scL, sc, scA]) rfl (jt1_true b1 e1 b2 e2 n1 n1 n2 n2 n3 n3 0 0 (z1.take n1) (z2.take n2) (z3.take n3) [] (by simp; omega) rfl (by omega) (by decide))
          have e : (⟨concL (winV [⟨p1, c1 - n1, off1, .ints .i64 (z1.take n1)⟩, ⟨p2, c2 - n2, off2, .ints .i64 (z2.take n2)⟩, ⟨p3, c3 - n3, off3, .ints .i64 (z3.take n3)⟩, ⟨p1, 0, 0, .ints .i64 []⟩]) [.agg #[.int .i64 b1, .int .i64 e1, .slice (some ⟨0, 0, none⟩) n1 n1, .slice (some ⟨1, 0, none⟩) n2 n2], .agg #[.int .i64 b2, .int .i64 e2, .slice (some ⟨2, 0, none⟩) n3 n3, .slice none 0 0]]⟩ : Array Value) = #[.agg #[.int .i64 b1, .int .i64 e1, .slice (some ⟨p1, off1, none⟩) n1 c1, .slice (some ⟨p2, off2, none⟩) n2 c2], .agg #[.int .i64 b2, .int .i64 e2, .slice (some ⟨p3, off3, none⟩) n3 c3, .slice none 0 0]] := by
            simp [concL, conc, concA, winV]
            omega
          rw [e] at this
          exact this
        · have := calls_wins sumsJ3_ok 60 4 [⟨p1, c1 - n1, off1, .ints .i64 (z1.take n1)⟩, ⟨p2, c2 - n2, off2, .ints .i64 (z2.take n2)⟩, ⟨p3, c3 - n3, off3, .ints .i64 (z3.take n3)⟩, ⟨p4, c4 - n4, off4, .ints .i64 (z4.take n4)⟩] [.agg #[.int .i64 b1, .int .i64 e1, .slice (some ⟨0, 0, none⟩) n1 n1, .slice (some ⟨1, 0, none⟩) n2 n2], .agg #[.int .i64 b2, .int .i64 e2, .slice (some ⟨2, 0, none⟩) n3 n3, .slice (some ⟨3, 0, none⟩) n4 n4]] (.bool true) W (fun w hw => by
            simp only [List.mem_cons, List.not_mem_nil, or_false] at hw
            rcases hw with rfl | rfl | rfl | rfl
            · exact seen_ints g1 hz1 hb1 hc1
            · exact seen_ints g2 hz2 hb2 hc2
            · exact seen_ints g3 hz3 hb3 hc3
            · exact seen_ints g4 hz4 hb4 hc4) (by simp [scL, sc, scA]) rfl (jt0_true b1 e1 b2 e2 n1 n1 n2 n2 n3 n3 n4 n4 (z1.take n1) (z2.take n2) (z3.take n3) (z4.take n4) (by simp; omega) (by simp; omega) (by omega) (by omega))
          have e : (⟨concL (winV [⟨p1, c1 - n1, off1, .ints .i64 (z1.take n1)⟩, ⟨p2, c2 - n2, off2, .ints .i64 (z2.take n2)⟩, ⟨p3, c3 - n3, off3, .ints .i64 (z3.take n3)⟩, ⟨p4, c4 - n4, off4, .ints .i64 (z4.take n4)⟩]) [.agg #[.int .i64 b1, .int .i64 e1, .slice (some ⟨0, 0, none⟩) n1 n1, .slice (some ⟨1, 0, none⟩) n2 n2], .agg #[.int .i64 b2, .int .i64 e2, .slice (some ⟨2, 0, none⟩) n3 n3, .slice (some ⟨3, 0, none⟩) n4 n4]]⟩ : Array Value) = #[.agg #[.int .i64 b1, .int .i64 e1, .slice (some ⟨p1, off1, none⟩) n1 c1, .slice (some ⟨p2, off2, none⟩) n2 c2], .agg #[.int .i64 b2, .int .i64 e2, .slice (some ⟨p3, off3, none⟩) n3 c3, .slice (some ⟨p4, off4, none⟩) n4 c4]] := by
            simp [concL, conc, concA, winV]
            omega
          rw [e] at this
          exact this
end Go.Proofs.Ythllilbmaidhgaa.Pure
