/- The law BoundRooms: how many slots are of each kind is what the document says; they are all slots together. No condition. -/
import Derived.Test.YtkgofabpmppglaaGreatRoomsB
import Derived.Test.YtkgofabpmppglaaGreatWinRow
namespace Go.Proofs.YtkgofabpmppglaaGreat.Pure
open Go.RowKit Go.Proofs.YtkgofabpmppglaaGreat.Ev Go.Proofs.YtkgofabpmppglaaGreat.Bound Go.Proofs.YtkgofabpmppglaaGreat.ChartMath
set_option linter.unusedVariables false
set_option linter.unusedSimpArgs false
theorem alive_is : outV (ev noSums 100 11 [] ⟨.nil, 0⟩) = some (.bool true) := by kernel_rfl
def aliveS : List Value → Option Value
  | [] => some (.bool true)
  | _ => none
theorem aliveS_ok {sums : Sums} (hs : SumsOk sums) : SumsOk (withPure sums 11 aliveS) := withPure_ok hs noSums_ok 100 (by kernel_rfl) fun al v h => by
  unfold aliveS at h
  split at h
  · cases h; exact ⟨rfl, rfl, alive_is⟩
  · cases h
noncomputable def sumsB : Sums := withPure sums14 11 aliveS
noncomputable def sumsN : Sums := withPure sums9 11 aliveS
theorem law_way_1 (T S K G Q : Int) (ws : List Int) (l c : Nat) : walkV (ev sumsB 60 4 [.agg #[.int .i64 T, .int .i64 S, .int .i64 K, .int .i64 G, .int .u64 Q], .slice (some ⟨0, 0, none⟩) l c] (winsH [⟨0, 0, 0, .ints .u64 ws⟩])) [true, true, true, true, true, true, true, true, true, true, true, true, true, false, false, false, false, false, false, false, false, false, false, false, false, false, false, true] =
    some ([cdec (o_I ([Atom.i T] ++ ([Atom.i S] ++ ([Atom.i K] ++ ([Atom.i G] ++ ([Atom.i Q] ++ [])))) ++ ([Atom.n l, Atom.n c] ++ []) ++ ([Atom.ws ws] ++ []))), isR T S K G Q ws, cdec (o_I ([Atom.i T] ++ ([Atom.i S] ++ ([Atom.i K] ++ ([Atom.i G] ++ ([Atom.i Q] ++ [])))) ++ ([Atom.n l, Atom.n c] ++ []) ++ ([Atom.ws ws] ++ []))), isR T S K G Q ws, true, true, true, bif true then (roomsR T S K G Q ws).fst == (roomsR T S K G Q ws).fst && ((roomsR T S K G Q ws).snd.fst == (roomsR T S K G Q ws).snd.fst && ((roomsR T S K G Q ws).snd.snd.fst == (roomsR T S K G Q ws).snd.snd.fst && ((roomsR T S K G Q ws).snd.snd.snd == (roomsR T S K G Q ws).snd.snd.snd && true))) else false, true, true, true, true, true, false, false, false, false, false, false, false, false, false, false, false, false, false, false, true], .bool (bif true then bif false then true else IntKind.i64.wrap (IntKind.i64.wrap (IntKind.i64.wrap ((roomsR T S K G Q ws).fst + (roomsR T S K G Q ws).snd.fst) + (roomsR T S K G Q ws).snd.snd.fst) + (roomsR T S K G Q ws).snd.snd.snd) == S else false)) := by kernel_rfl
theorem law_way_7 (T S K G Q : Int) (ws : List Int) (l c : Nat) : walkV (ev sumsB 60 4 [.agg #[.int .i64 T, .int .i64 S, .int .i64 K, .int .i64 G, .int .u64 Q], .slice (some ⟨0, 0, none⟩) l c] (winsH [⟨0, 0, 0, .ints .u64 ws⟩])) [true, false, true, false, true, true, true, true, true, true, true, true, true, true, true, true, true, true, true, true, true, true, true, true, true, true, true, true, true] =
    some ([cdec (o_I ([Atom.i T] ++ ([Atom.i S] ++ ([Atom.i K] ++ ([Atom.i G] ++ ([Atom.i Q] ++ [])))) ++ ([Atom.n l, Atom.n c] ++ []) ++ ([Atom.ws ws] ++ []))), isR T S K G Q ws, cdec (o_I ([Atom.i T] ++ ([Atom.i S] ++ ([Atom.i K] ++ ([Atom.i G] ++ ([Atom.i Q] ++ [])))) ++ ([Atom.n l, Atom.n c] ++ []) ++ ([Atom.ws ws] ++ []))), isR T S K G Q ws, true, true, true, true, true, true, true, true, true, true, true, true, true, true, true, true, true, true, true, true, true, true, true, true, true], .bool true) := by kernel_rfl

theorem law_is (T S K G Q : Int) (ws : List Int) (l c : Nat) (hl : ws.length = l) (hw : words ws) : outV (ev sumsB 60 4 [.agg #[.int .i64 T, .int .i64 S, .int .i64 K, .int .i64 G, .int .u64 Q], .slice (some ⟨0, 0, none⟩) l c] (winsH [⟨0, 0, 0, .ints .u64 ws⟩])) = some (.bool true) := by
  have hI : cdec (o_I ([Atom.i T] ++ ([Atom.i S] ++ ([Atom.i K] ++ ([Atom.i G] ++ ([Atom.i Q] ++ [])))) ++ ([Atom.n l, Atom.n c] ++ []) ++ ([Atom.ws ws] ++ []))) = true := cdec_true ⟨hl, hw⟩
  cases hR : isR T S K G Q ws with
  | false => exact outV_walk (law_way_7 T S K G Q ws l c) (by rw [hI, hR])
  | true =>
    refine (outV_walk (law_way_1 T S K G Q ws l c) ?_).trans ?_
    · rw [hI, hR]
      simp only [beq_self_eq_true, Bool.and_self, cond_true]
    · simp only [isR, Bool.and_eq_true, decide_eq_true_eq] at hR
      obtain ⟨t1, t2, s1, s2, k1, k2, _⟩ := right_iff.1 hR.1
      obtain ⟨c1, c2, c3, c4, c5, c6, c7⟩ := rooms_cnt (G := G) (Q := Q) hR.1 hR.2 hw
      generalize roomsR T S K G Q ws = r at *
      obtain ⟨r1, r2, r3, r4⟩ := r
      simp only at c5 c6 ⊢
      have wr : ∀ x : Int, -100 ≤ x → x ≤ 100 → IntKind.i64.wrap x = x := fun x h1 h2 => by rw [IntKind.wrap_i64]; omega
      rw [wr (r1 + r2) (by omega) (by omega), wr (r1 + r2 + r3) (by omega) (by omega), wr (r1 + r2 + r3 + r4) (by omega) (by omega), c5]
      simp
theorem nil_way_1 (T S K G Q : Int) : walkV (ev sumsN 60 4 [.agg #[.int .i64 T, .int .i64 S, .int .i64 K, .int .i64 G, .int .u64 Q], .slice none 0 0] ⟨.nil, 0⟩) [true, true, true, true, true, true, true, true, true, true, true, true, true, true, true, true, true, true, true, true, true, true, true, true, true, true, true, true, true, true, true, true, true, true, true, true, true, true] =
    some ([lenA T S K G Q == 0, true, true, true, true, true, !right T S K G Q, true, true, true, true, true, true, true, true, true, true, true, true, true, true, true, true, true, true, true, true, true, true, true, true, true, true, true, true, true, true, true], .bool true) := by kernel_rfl
theorem nil_way_5 (T S K G Q : Int) : walkV (ev sumsN 60 4 [.agg #[.int .i64 T, .int .i64 S, .int .i64 K, .int .i64 G, .int .u64 Q], .slice none 0 0] ⟨.nil, 0⟩) [false, false, false, false, true, false, false, false, false, false, true, true, true, true, true, true, true, true, true, true, true, true, true, true, true, true, true, true, true, true, true, true, true, true, true, true] =
    some ([lenA T S K G Q == 0, false, false, false, bif false then true else lenA T S K G Q != ↑0, !right T S K G Q, false, false, false, false, bif false then true else ↑0 != lenA T S K G Q, true, true, true, true, true, true, true, true, true, true, true, true, true, true, true, true, true, true, true, true, true, true, true, true, true], .bool true) := by kernel_rfl
theorem law_no (T S K G Q : Int) : outV (ev sumsN 60 4 [.agg #[.int .i64 T, .int .i64 S, .int .i64 K, .int .i64 G, .int .u64 Q], .slice none 0 0] ⟨.nil, 0⟩) = some (.bool true) := by
  cases hR : right T S K G Q with
  | false => exact outV_walk (nil_way_1 T S K G Q) (by simp [lenA, hR])
  | true =>
    obtain ⟨t1, t2, s1, s2, k1, k2, _⟩ := right_iff.1 hR
    have hA : lenA T S K G Q = lenOf T S K := by simp [lenA, hR]
    have h0 : (lenOf T S K == 0) = false := len_pos hR
    have h1 : (lenOf T S K != ((0 : Nat) : Int)) = true := by simp [bne, h0]
    have h2 : (((0 : Nat) : Int) != lenOf T S K) = true := by simp [lenOf]; omega
    have h1' : (lenOf T S K != (0 : Int)) = true := h1
    have h2' : ((0 : Int) != lenOf T S K) = true := h2
    exact outV_walk (nil_way_5 T S K G Q) (by simp only [hA, h0, h1, h2, h1', h2', hR, cond_false, Bool.not_true])
theorem walkBoundRooms (W : World) (T S K G Q : Int) (wT : (Lit.int .i64 T).wf = true) (wS : (Lit.int .i64 S).wf = true) (wK : (Lit.int .i64 K).wf = true) (wG : (Lit.int .i64 G).wf = true) (wQ : (Lit.int .u64 Q).wf = true) (a : Option Addr) (len cap : Nat) (zs : List Int) (h : Open.IsWin .u64 W a len cap zs) :
    Calls Tryz.prog 4 #[.agg #[.int .i64 T, .int .i64 S, .int .i64 K, .int .i64 G, .int .u64 Q], .slice a len cap] W fun e W' => e = .returned (.bool true) ∧ Below W.heap.size W W' := by
  rcases h with ⟨rfl, rfl, rfl, rfl⟩ | ⟨b, off, cs, t, fr, rfl, h1, h2, h3, hb, hc, hz⟩
  · exact calls_plain (aliveS_ok sums9_ok) 60 _ _ _ rfl rfl (law_no T S K G Q) W
  · have := calls_wins (aliveS_ok sums14_ok) 60 4 [⟨b, cap - len, off, .ints .u64 (zs.take len)⟩] [.agg #[.int .i64 T, .int .i64 S, .int .i64 K, .int .i64 G, .int .u64 Q], .slice (some ⟨0, 0, none⟩) len len] (.bool true) W (fun w hw => by
      simp at hw; subst hw; exact seen_ints h1 h3 hb hc) (by simp [scL, sc, scA]) rfl (law_is T S K G Q (zs.take len) len len (by simp; omega) (words_take hz))
    have e : (⟨concL (winV [⟨b, cap - len, off, .ints .u64 (zs.take len)⟩]) [.agg #[.int .i64 T, .int .i64 S, .int .i64 K, .int .i64 G, .int .u64 Q], .slice (some ⟨0, 0, none⟩) len len]⟩ : Array Value) = #[.agg #[.int .i64 T, .int .i64 S, .int .i64 K, .int .i64 G, .int .u64 Q], .slice (some ⟨b, off, none⟩) len cap] := by
      simp [concL, conc, concA, winV]
      omega
    rw [e] at this
    exact this
end Go.Proofs.YtkgofabpmppglaaGreat.Pure
