/- The law SweepNone: behind a sweep that ended nothing names its slot, and an Open that comes next gets it. No condition. -/
import Derived.Test.YtfmhlldfpohokaaGreatSwNo2
import Derived.Test.YtfmhlldfpohokaaGreatWinRowQ
import Derived.Test.YtfmhlldfpohokaaGreatPokeRowQ
namespace Go.Proofs.YtfmhlldfpohokaaGreat.Pure
open Go.RowKit Go.Proofs.YtfmhlldfpohokaaGreat.Ev Go.Proofs.YtfmhlldfpohokaaGreat.Bound
set_option linter.unusedVariables false
set_option linter.unusedSimpArgs false
theorem walkSweepNone (W : World) (T S K G Q : Int) (wT : (Lit.int .i64 T).wf = true) (wS : (Lit.int .i64 S).wf = true) (wK : (Lit.int .i64 K).wf = true) (wG : (Lit.int .i64 G).wf = true) (wQ : (Lit.int .u64 Q).wf = true) (a : Option Addr) (len cap : Nat) (zs : List Int) (h : Open.IsWin .u64 W a len cap zs)
    (x y z : Int) (A : Option Addr) (n c : Nat) (rs : List (List Int)) (wx : (Lit.int .i64 x).wf = true) (wy : (Lit.int .u64 y).wf = true) (wz : (Lit.int .i64 z).wf = true) (h2 : Open.IsPokes W A n c rs) :
    Calls Tryz.prog 5 #[.agg #[.int .i64 T, .int .i64 S, .int .i64 K, .int .i64 G, .int .u64 Q], .slice a len cap, .agg #[.int .i64 x, .int .u64 y, .int .i64 z, .slice A n c]] W fun e W' => e = .returned (.bool true) ∧ Below W.heap.size W W' := by
  have hy : 0 ≤ y ∧ y < 18446744073709551616 := by
    simp [Lit.wf, IntKind.has, IntKind.min, IntKind.max, IntKind.signed, IntKind.bits] at wy
    omega
  rcases h with ⟨rfl, rfl, rfl, rfl⟩ | ⟨b, off, cs, t, fr, rfl, h1, hh2, h3, hb, hc, hz⟩
  · rcases h2 with ⟨rfl, rfl, rfl, rfl⟩ | ⟨b, off, cs, t, fr, rfl, h1, hb, hl, hr⟩
    · exact calls_plain sumsZK_ok 60 _ _ _ rfl rfl (valT_out (cut_get (ct_lzk0 T S K G Q x y z) (lzk_get T S K G Q y hy))) W
    · have := calls_wins sumsZK_ok 60 5 [⟨b, c - n, off, .recs pokeR []⟩] [.agg #[.int .i64 T, .int .i64 S, .int .i64 K, .int .i64 G, .int .u64 Q], .slice none 0 0, .agg #[.int .i64 x, .int .u64 y, .int .i64 z, .slice (some ⟨0, 0, some 16384⟩) n n]] (.bool true) W (fun w hw => by
        simp at hw; subst hw; exact seen_none hb) (by simp [scL, sc, scA]) rfl (valT_out (cut_get (ct_lzk1 T S K G Q x y z n n) (lzk_get T S K G Q y hy)))
      have e : (⟨concL (winV [⟨b, c - n, off, .recs pokeR []⟩]) [.agg #[.int .i64 T, .int .i64 S, .int .i64 K, .int .i64 G, .int .u64 Q], .slice none 0 0, .agg #[.int .i64 x, .int .u64 y, .int .i64 z, .slice (some ⟨0, 0, some 16384⟩) n n]]⟩ : Array Value) = #[.agg #[.int .i64 T, .int .i64 S, .int .i64 K, .int .i64 G, .int .u64 Q], .slice none 0 0, .agg #[.int .i64 x, .int .u64 y, .int .i64 z, .slice (some ⟨b, off, none⟩) n c]] := by
        simp [concL, conc, concA, winV, caddr, ccap, exact_, show Nat.ble 1048576 16384 = false from rfl]
        omega
      rw [e] at this
      exact this
  · have hget := nn_get T S K G Q len len (zs.take len) x y (by simp; omega) (words_take hz) hy
    rcases h2 with ⟨rfl, rfl, rfl, rfl⟩ | ⟨b2, off2, cs2, t2, fr2, rfl, g1, gb, gl, gr⟩
    · have := calls_wins sumsN2_ok 60 5 [⟨b, cap - len, off, .ints .u64 (zs.take len)⟩, ⟨b, 0, 0, .recs pokeR []⟩] [.agg #[.int .i64 T, .int .i64 S, .int .i64 K, .int .i64 G, .int .u64 Q], .slice (some ⟨0, 0, none⟩) len len, .agg #[.int .i64 x, .int .u64 y, .int .i64 z, .slice none 0 0]] (.bool true) W (fun w hw => by
        simp at hw
        rcases hw with rfl | rfl
        · exact seen_ints h1 h3 hb hc
        · exact seen_none hb) (by simp [scL, sc, scA]) rfl (valT_out (cut_get (ct_nn0 T S K G Q len (zs.take len) x y z len) hget))
      have e : (⟨concL (winV [⟨b, cap - len, off, .ints .u64 (zs.take len)⟩, ⟨b, 0, 0, .recs pokeR []⟩]) [.agg #[.int .i64 T, .int .i64 S, .int .i64 K, .int .i64 G, .int .u64 Q], .slice (some ⟨0, 0, none⟩) len len, .agg #[.int .i64 x, .int .u64 y, .int .i64 z, .slice none 0 0]]⟩ : Array Value) = #[.agg #[.int .i64 T, .int .i64 S, .int .i64 K, .int .i64 G, .int .u64 Q], .slice (some ⟨b, off, none⟩) len cap, .agg #[.int .i64 x, .int .u64 y, .int .i64 z, .slice none 0 0]] := by
        simp [concL, conc, concA, winV]
        omega
      rw [e] at this
      exact this
    · obtain ⟨s1, s2⟩ := seen_pokes (room := c - n) gb gl gr
      have := calls_wins sumsN2_ok 60 5 [⟨b, cap - len, off, .ints .u64 (zs.take len)⟩, ⟨b2, c - n, off2, .recs pokeR rs⟩] [.agg #[.int .i64 T, .int .i64 S, .int .i64 K, .int .i64 G, .int .u64 Q], .slice (some ⟨0, 0, none⟩) len len, .agg #[.int .i64 x, .int .u64 y, .int .i64 z, .slice (some ⟨1, 0, some 16384⟩) n n]] (.bool true) W (fun w hw => by
        simp at hw
        rcases hw with rfl | rfl
        · exact seen_ints h1 h3 hb hc
        · exact s1) (by simp [scL, sc, scA]) rfl (valT_out (cut_get (ct_nn1 T S K G Q len (zs.take len) rs x y z n n len) hget))
      have e : (⟨concL (winV [⟨b, cap - len, off, .ints .u64 (zs.take len)⟩, ⟨b2, c - n, off2, .recs pokeR rs⟩]) [.agg #[.int .i64 T, .int .i64 S, .int .i64 K, .int .i64 G, .int .u64 Q], .slice (some ⟨0, 0, none⟩) len len, .agg #[.int .i64 x, .int .u64 y, .int .i64 z, .slice (some ⟨1, 0, some 16384⟩) n n]]⟩ : Array Value) = #[.agg #[.int .i64 T, .int .i64 S, .int .i64 K, .int .i64 G, .int .u64 Q], .slice (some ⟨b, off, none⟩) len cap, .agg #[.int .i64 x, .int .u64 y, .int .i64 z, .slice (some ⟨b2, off2, none⟩) n c]] := by
        simp [concL, conc, concA, winV, caddr, ccap, exact_, show Nat.ble 1048576 16384 = false from rfl]
        omega
      rw [e] at this
      exact this
end Go.Proofs.YtfmhlldfpohokaaGreat.Pure
