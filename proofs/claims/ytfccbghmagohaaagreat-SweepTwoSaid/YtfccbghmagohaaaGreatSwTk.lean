/- The law SweepTwo: the loop over turns, by pairs of kinds: forms, and each round. No condition. The law SweepTwo: the loop over turns comes to its end. No condition. The law SweepTwo: where it begins, and that both end. No condition. -/
import Derived.Test.YtfccbghmagohaaaGreatSwGa
import Derived.Test.YtfccbghmagohaaaGreatSwNewQ
import Derived.Test.YtfccbghmagohaaaGreatSwAliveQ
import Derived.Test.YtfccbghmagohaaaGreatSwTa
section
namespace Go.Proofs.YtfccbghmagohaaaGreat.Bound
open Go.Proofs.YtfccbghmagohaaaGreat.Ev Go.Proofs.YtfccbghmagohaaaGreat.ChartMath
set_option linter.unusedVariables false
set_option linter.unusedSimpArgs false
def winK : List Nat := [4, 5, 6, 7, 9, 10, 11, 12, 13, 14, 15, 16, 17, 18]
/-- Pairs of kinds: one of them has not begun, or is done. -/
def pairsL : List (Nat × Nat) := ((0 :: winK ++ [20]).map fun k => (k, 0)) ++ ((0 :: winK ++ [20]).map fun k => (k, 20)) ++ (winK.map fun k => (0, k)) ++ (winK.map fun k => (20, k))
def pix (ka kb : Nat) : List (Nat × Nat) → Nat → Option Nat
  | [], _ => none
  | p :: l, n => cond (Nat.beq p.1 ka && Nat.beq p.2 kb) (some n) (pix ka kb l (n + 1))
def pixD (ka kb : Nat) : Nat := (pix ka kb pairsL 0).getD 0
def pOk (ka kb : Nat) : Bool := (pix ka kb pairsL 0).isSome
def twP (ka kb : Nat) : SPat :=
  let na := (swSub ka 0 0).length
  let nb := (swSub kb 0 0).length
  ⟨[(7, .ptr 1 0 none), (8, .ptr (2 + na) 0 none), (5, .ptr (3 + na + nb) 0 none), (59, .slice 0 0 (some 4096)), (60, i6), (61, i6)], 129,
    (0, winT, .recs [.bool]) :: swC ka 1 2 :: swSub ka 1 2 ++ swC kb (2 + na) (3 + na) :: swSub kb (2 + na) (3 + na) ++ [(3 + na + nb, 111, memK (4 + na + nb)), (4 + na + nb, 22, .ints .u64)], 5 + na + nb, []⟩
def twE (ka kb : Nat) : SPat :=
  let na := (swSub ka 0 0).length
  let nb := (swSub kb 0 0).length
  ⟨[(7, .ptr 1 0 none), (8, .ptr (2 + na) 0 none), (5, .ptr (3 + na + nb) 0 none)], 129,
    (0, winT, .recs [.bool]) :: swC ka 1 2 :: swSub ka 1 2 ++ swC kb (2 + na) (3 + na) :: swSub kb (2 + na) (3 + na) ++ [(3 + na + nb, 111, memK (4 + na + nb)), (4 + na + nb, 22, .ints .u64)], 5 + na + nb, []⟩
def twSel (_ : Ex) (s : St) : List Nat := (kindsS s 7).flatMap fun ka => (kindsS s 8).flatMap fun kb => match pix ka kb pairsL 0 with
  | some n => [n]
  | none => []
def TM : SForm := ⟨⟨pairsL.map fun p => ([7, 8, 5, 59, 60, 61], twP p.1 p.2), [(0, pairsL.map fun p => ([7, 8, 5], twE p.1 p.2))], []⟩, twSel⟩
def tw (ka kb ln cn : Nat) (len i : Int) (rs : List (List Int)) (A B M : List Atom) : List Atom := .n (pixD ka kb) :: .n ln :: .n cn :: .i len :: .i i :: .rs rs :: (A ++ (B ++ M))
noncomputable def sumsTw : Sums := withPure (withEndG (withNew sumsS1)) 11 aliveS
theorem sumsTw_ok : SumsOk sumsTw := aliveS_ok (withEndG_ok (withNew_ok sumsS1_ok))
noncomputable def rdT : List Atom → Tree (Ex × List Atom) := roundS sumsTw 60 3 9 1 TM
/-- What a sweep has of its own, behind a step; the memory's. -/
def ownX (y : List Atom) : List Atom := y.take (y.length - 15)
def memX (y : List Atom) : List Atom := y.drop (y.length - 15)
noncomputable def nxtT (ka kb ln cn : Nat) (len i : Int) (rs : List (List Int)) (A B M : List Atom) : Tree (Ex × List Atom) := cond (pOk ka kb) (.leaf (.normal, tw ka kb ln cn len (IntKind.i64.wrap (i + 1)) rs A B M)) .bad
def exT (ka kb : Nat) (rs : List (List Int)) (A B M : List Atom) : Ex × List Atom := (.exit 0, .n (pixD ka kb) :: .rs rs :: (A ++ (B ++ M)))
def RtOk (ka kb : Nat) : Prop := ∀ (ln cn : Nat) (len i : Int) (rs : List (List Int)) (u : Nat → Int) (bo : Nat → Bool) (na : Nat → Nat) (wl : Nat → List Int) (u2 : Nat → Int) (b2 : Nat → Bool) (n2 : Nat → Nat) (w2 : Nat → List Int) (T S K G Q : Int) (l c : Nat) (s : MS), (rdT (tw ka kb ln cn len i rs (ow ka u bo na wl) (ow kb u2 b2 n2 w2) (mA T S K G Q l c s))).get = (Tree.br (decide (i < len)) (.br (decide (0 ≤ i ∧ i < (ln : Int))) (.br (decide (0 + i.toNat < rs.length)) (.br (decide ((rs.getD (0 + i.toNat) []).getD 0 0 = 1))
  ((stepT ka (ow ka u bo na wl ++ mA T S K G Q l c s)).bind fun r => nxtT r.1 kb ln cn len i rs (ownX r.2) (ow kb u2 b2 n2 w2) (memX r.2))
  ((stepT kb (ow kb u2 b2 n2 w2 ++ mA T S K G Q l c s)).bind fun r => nxtT ka r.1 ln cn len i rs (ow ka u bo na wl) (ownX r.2) (memX r.2))) .bad) .bad) (.leaf (exT ka kb rs (ow ka u bo na wl) (ow kb u2 b2 n2 w2) (mA T S K G Q l c s)))).get
theorem rt_0 : RtOk 0 0 := fun ln cn len i rs u bo na wl u2 b2 n2 w2 T S K G Q l c s => by kernel_rfl
theorem rt_1 : RtOk 4 0 := fun ln cn len i rs u bo na wl u2 b2 n2 w2 T S K G Q l c s => by kernel_rfl
theorem rt_2 : RtOk 5 0 := fun ln cn len i rs u bo na wl u2 b2 n2 w2 T S K G Q l c s => by kernel_rfl
theorem rt_3 : RtOk 6 0 := fun ln cn len i rs u bo na wl u2 b2 n2 w2 T S K G Q l c s => by kernel_rfl
theorem rt_4 : RtOk 7 0 := fun ln cn len i rs u bo na wl u2 b2 n2 w2 T S K G Q l c s => by kernel_rfl
theorem rt_5 : RtOk 9 0 := fun ln cn len i rs u bo na wl u2 b2 n2 w2 T S K G Q l c s => by kernel_rfl
theorem rt_6 : RtOk 10 0 := fun ln cn len i rs u bo na wl u2 b2 n2 w2 T S K G Q l c s => by kernel_rfl
theorem rt_7 : RtOk 11 0 := fun ln cn len i rs u bo na wl u2 b2 n2 w2 T S K G Q l c s => by kernel_rfl
theorem rt_8 : RtOk 12 0 := fun ln cn len i rs u bo na wl u2 b2 n2 w2 T S K G Q l c s => by kernel_rfl
theorem rt_9 : RtOk 13 0 := fun ln cn len i rs u bo na wl u2 b2 n2 w2 T S K G Q l c s => by kernel_rfl
theorem rt_10 : RtOk 14 0 := fun ln cn len i rs u bo na wl u2 b2 n2 w2 T S K G Q l c s => by kernel_rfl
theorem rt_11 : RtOk 15 0 := fun ln cn len i rs u bo na wl u2 b2 n2 w2 T S K G Q l c s => by kernel_rfl
theorem rt_12 : RtOk 16 0 := fun ln cn len i rs u bo na wl u2 b2 n2 w2 T S K G Q l c s => by kernel_rfl
theorem rt_13 : RtOk 17 0 := fun ln cn len i rs u bo na wl u2 b2 n2 w2 T S K G Q l c s => by kernel_rfl
theorem rt_14 : RtOk 18 0 := fun ln cn len i rs u bo na wl u2 b2 n2 w2 T S K G Q l c s => by kernel_rfl
theorem rt_15 : RtOk 20 0 := fun ln cn len i rs u bo na wl u2 b2 n2 w2 T S K G Q l c s => by kernel_rfl
theorem rt_16 : RtOk 0 20 := fun ln cn len i rs u bo na wl u2 b2 n2 w2 T S K G Q l c s => by kernel_rfl
theorem rt_17 : RtOk 4 20 := fun ln cn len i rs u bo na wl u2 b2 n2 w2 T S K G Q l c s => by kernel_rfl
theorem rt_18 : RtOk 5 20 := fun ln cn len i rs u bo na wl u2 b2 n2 w2 T S K G Q l c s => by kernel_rfl
theorem rt_19 : RtOk 6 20 := fun ln cn len i rs u bo na wl u2 b2 n2 w2 T S K G Q l c s => by kernel_rfl
theorem rt_20 : RtOk 7 20 := fun ln cn len i rs u bo na wl u2 b2 n2 w2 T S K G Q l c s => by kernel_rfl
theorem rt_21 : RtOk 9 20 := fun ln cn len i rs u bo na wl u2 b2 n2 w2 T S K G Q l c s => by kernel_rfl
theorem rt_22 : RtOk 10 20 := fun ln cn len i rs u bo na wl u2 b2 n2 w2 T S K G Q l c s => by kernel_rfl
theorem rt_23 : RtOk 11 20 := fun ln cn len i rs u bo na wl u2 b2 n2 w2 T S K G Q l c s => by kernel_rfl
theorem rt_24 : RtOk 12 20 := fun ln cn len i rs u bo na wl u2 b2 n2 w2 T S K G Q l c s => by kernel_rfl
theorem rt_25 : RtOk 13 20 := fun ln cn len i rs u bo na wl u2 b2 n2 w2 T S K G Q l c s => by kernel_rfl
theorem rt_26 : RtOk 14 20 := fun ln cn len i rs u bo na wl u2 b2 n2 w2 T S K G Q l c s => by kernel_rfl
theorem rt_27 : RtOk 15 20 := fun ln cn len i rs u bo na wl u2 b2 n2 w2 T S K G Q l c s => by kernel_rfl
theorem rt_28 : RtOk 16 20 := fun ln cn len i rs u bo na wl u2 b2 n2 w2 T S K G Q l c s => by kernel_rfl
theorem rt_29 : RtOk 17 20 := fun ln cn len i rs u bo na wl u2 b2 n2 w2 T S K G Q l c s => by kernel_rfl
theorem rt_30 : RtOk 18 20 := fun ln cn len i rs u bo na wl u2 b2 n2 w2 T S K G Q l c s => by kernel_rfl
theorem rt_31 : RtOk 20 20 := fun ln cn len i rs u bo na wl u2 b2 n2 w2 T S K G Q l c s => by kernel_rfl
theorem rt_32 : RtOk 0 4 := fun ln cn len i rs u bo na wl u2 b2 n2 w2 T S K G Q l c s => by kernel_rfl
theorem rt_33 : RtOk 0 5 := fun ln cn len i rs u bo na wl u2 b2 n2 w2 T S K G Q l c s => by kernel_rfl
theorem rt_34 : RtOk 0 6 := fun ln cn len i rs u bo na wl u2 b2 n2 w2 T S K G Q l c s => by kernel_rfl
theorem rt_35 : RtOk 0 7 := fun ln cn len i rs u bo na wl u2 b2 n2 w2 T S K G Q l c s => by kernel_rfl
theorem rt_36 : RtOk 0 9 := fun ln cn len i rs u bo na wl u2 b2 n2 w2 T S K G Q l c s => by kernel_rfl
theorem rt_37 : RtOk 0 10 := fun ln cn len i rs u bo na wl u2 b2 n2 w2 T S K G Q l c s => by kernel_rfl
theorem rt_38 : RtOk 0 11 := fun ln cn len i rs u bo na wl u2 b2 n2 w2 T S K G Q l c s => by kernel_rfl
theorem rt_39 : RtOk 0 12 := fun ln cn len i rs u bo na wl u2 b2 n2 w2 T S K G Q l c s => by kernel_rfl
theorem rt_40 : RtOk 0 13 := fun ln cn len i rs u bo na wl u2 b2 n2 w2 T S K G Q l c s => by kernel_rfl
theorem rt_41 : RtOk 0 14 := fun ln cn len i rs u bo na wl u2 b2 n2 w2 T S K G Q l c s => by kernel_rfl
theorem rt_42 : RtOk 0 15 := fun ln cn len i rs u bo na wl u2 b2 n2 w2 T S K G Q l c s => by kernel_rfl
theorem rt_43 : RtOk 0 16 := fun ln cn len i rs u bo na wl u2 b2 n2 w2 T S K G Q l c s => by kernel_rfl
theorem rt_44 : RtOk 0 17 := fun ln cn len i rs u bo na wl u2 b2 n2 w2 T S K G Q l c s => by kernel_rfl
theorem rt_45 : RtOk 0 18 := fun ln cn len i rs u bo na wl u2 b2 n2 w2 T S K G Q l c s => by kernel_rfl
theorem rt_46 : RtOk 20 4 := fun ln cn len i rs u bo na wl u2 b2 n2 w2 T S K G Q l c s => by kernel_rfl
theorem rt_47 : RtOk 20 5 := fun ln cn len i rs u bo na wl u2 b2 n2 w2 T S K G Q l c s => by kernel_rfl
theorem rt_48 : RtOk 20 6 := fun ln cn len i rs u bo na wl u2 b2 n2 w2 T S K G Q l c s => by kernel_rfl
theorem rt_49 : RtOk 20 7 := fun ln cn len i rs u bo na wl u2 b2 n2 w2 T S K G Q l c s => by kernel_rfl
theorem rt_50 : RtOk 20 9 := fun ln cn len i rs u bo na wl u2 b2 n2 w2 T S K G Q l c s => by kernel_rfl
theorem rt_51 : RtOk 20 10 := fun ln cn len i rs u bo na wl u2 b2 n2 w2 T S K G Q l c s => by kernel_rfl
theorem rt_52 : RtOk 20 11 := fun ln cn len i rs u bo na wl u2 b2 n2 w2 T S K G Q l c s => by kernel_rfl
theorem rt_53 : RtOk 20 12 := fun ln cn len i rs u bo na wl u2 b2 n2 w2 T S K G Q l c s => by kernel_rfl
theorem rt_54 : RtOk 20 13 := fun ln cn len i rs u bo na wl u2 b2 n2 w2 T S K G Q l c s => by kernel_rfl
theorem rt_55 : RtOk 20 14 := fun ln cn len i rs u bo na wl u2 b2 n2 w2 T S K G Q l c s => by kernel_rfl
theorem rt_56 : RtOk 20 15 := fun ln cn len i rs u bo na wl u2 b2 n2 w2 T S K G Q l c s => by kernel_rfl
theorem rt_57 : RtOk 20 16 := fun ln cn len i rs u bo na wl u2 b2 n2 w2 T S K G Q l c s => by kernel_rfl
theorem rt_58 : RtOk 20 17 := fun ln cn len i rs u bo na wl u2 b2 n2 w2 T S K G Q l c s => by kernel_rfl
theorem rt_59 : RtOk 20 18 := fun ln cn len i rs u bo na wl u2 b2 n2 w2 T S K G Q l c s => by kernel_rfl
theorem rt_all {ka kb : Nat} (h : (ka, kb) ∈ pairsL) : RtOk ka kb := by
  simp only [pairsL, winK, List.map, List.cons_append, List.nil_append, List.mem_cons, List.not_mem_nil, or_false, Prod.mk.injEq] at h
  rcases h with ⟨rfl, rfl⟩ | ⟨rfl, rfl⟩ | ⟨rfl, rfl⟩ | ⟨rfl, rfl⟩ | ⟨rfl, rfl⟩ | ⟨rfl, rfl⟩ | ⟨rfl, rfl⟩ | ⟨rfl, rfl⟩ | ⟨rfl, rfl⟩ | ⟨rfl, rfl⟩ | ⟨rfl, rfl⟩ | ⟨rfl, rfl⟩ | ⟨rfl, rfl⟩ | ⟨rfl, rfl⟩ | ⟨rfl, rfl⟩ | ⟨rfl, rfl⟩ | ⟨rfl, rfl⟩ | ⟨rfl, rfl⟩ | ⟨rfl, rfl⟩ | ⟨rfl, rfl⟩ | ⟨rfl, rfl⟩ | ⟨rfl, rfl⟩ | ⟨rfl, rfl⟩ | ⟨rfl, rfl⟩ | ⟨rfl, rfl⟩ | ⟨rfl, rfl⟩ | ⟨rfl, rfl⟩ | ⟨rfl, rfl⟩ | ⟨rfl, rfl⟩ | ⟨rfl, rfl⟩ | ⟨rfl, rfl⟩ | ⟨rfl, rfl⟩ | ⟨rfl, rfl⟩ | ⟨rfl, rfl⟩ | ⟨rfl, rfl⟩ | ⟨rfl, rfl⟩ | ⟨rfl, rfl⟩ | ⟨rfl, rfl⟩ | ⟨rfl, rfl⟩ | ⟨rfl, rfl⟩ | ⟨rfl, rfl⟩ | ⟨rfl, rfl⟩ | ⟨rfl, rfl⟩ | ⟨rfl, rfl⟩ | ⟨rfl, rfl⟩ | ⟨rfl, rfl⟩ | ⟨rfl, rfl⟩ | ⟨rfl, rfl⟩ | ⟨rfl, rfl⟩ | ⟨rfl, rfl⟩ | ⟨rfl, rfl⟩ | ⟨rfl, rfl⟩ | ⟨rfl, rfl⟩ | ⟨rfl, rfl⟩ | ⟨rfl, rfl⟩ | ⟨rfl, rfl⟩ | ⟨rfl, rfl⟩ | ⟨rfl, rfl⟩ | ⟨rfl, rfl⟩ | ⟨rfl, rfl⟩
  · exact rt_0
  · exact rt_1
  · exact rt_2
  · exact rt_3
  · exact rt_4
  · exact rt_5
  · exact rt_6
  · exact rt_7
  · exact rt_8
  · exact rt_9
  · exact rt_10
  · exact rt_11
  · exact rt_12
  · exact rt_13
  · exact rt_14
  · exact rt_15
  · exact rt_16
  · exact rt_17
  · exact rt_18
  · exact rt_19
  · exact rt_20
  · exact rt_21
  · exact rt_22
  · exact rt_23
  · exact rt_24
  · exact rt_25
  · exact rt_26
  · exact rt_27
  · exact rt_28
  · exact rt_29
  · exact rt_30
  · exact rt_31
  · exact rt_32
  · exact rt_33
  · exact rt_34
  · exact rt_35
  · exact rt_36
  · exact rt_37
  · exact rt_38
  · exact rt_39
  · exact rt_40
  · exact rt_41
  · exact rt_42
  · exact rt_43
  · exact rt_44
  · exact rt_45
  · exact rt_46
  · exact rt_47
  · exact rt_48
  · exact rt_49
  · exact rt_50
  · exact rt_51
  · exact rt_52
  · exact rt_53
  · exact rt_54
  · exact rt_55
  · exact rt_56
  · exact rt_57
  · exact rt_58
  · exact rt_59
end Go.Proofs.YtfccbghmagohaaaGreat.Bound
end

section
namespace Go.Proofs.YtfccbghmagohaaaGreat.Bound
open Go.Proofs.YtfccbghmagohaaaGreat.Ev Go.Proofs.YtfccbghmagohaaaGreat.ChartMath
set_option linter.unusedVariables false
set_option linter.unusedSimpArgs false
theorem pix_mem {ka kb : Nat} : ∀ {l : List (Nat × Nat)} {n : Nat}, (ka, kb) ∈ l → (pix ka kb l n).isSome = true
  | [], n, h => by cases h
  | p :: l, n, h => by
    simp only [pix]
    cases hb : (Nat.beq p.1 ka && Nat.beq p.2 kb) with
    | true => rfl
    | false =>
      simp only [cond_false]
      simp only [List.mem_cons] at h
      rcases h with rfl | h
      · simp at hb
      · exact pix_mem h
theorem pOk_mem {ka kb : Nat} (h : (ka, kb) ∈ pairsL) : pOk ka kb = true := pix_mem h
theorem ownX_app (A : List Atom) (T S K G Q : Int) (l c : Nat) (s : MS) : ownX (A ++ mA T S K G Q l c s) = A := by
  simp [ownX, mA]
theorem memX_app (A : List Atom) (T S K G Q : Int) (l c : Nat) (s : MS) : memX (A ++ mA T S K G Q l c s) = mA T S K G Q l c s := by
  simp [memX, mA]
theorem lo_kind {p : Pm} {eh : Int} {o : Nat × List Atom} (h : Lo p eh o) : o.1 = 0 ∨ o.1 = 20 := by
  cases h with
  | look => exact .inl rfl
  | take => exact .inl rfl
  | no h => exact .inr rfl
theorem win_kind {p : Pm} {st : Nat × List Atom} (h : Win p st) : st.1 ∈ winK := by
  cases h <;> simp [hd, winK]
theorem pair_1 {ka kb : Nat} (ha : ka ∈ winK ∨ ka = 20) (hb : kb = 0 ∨ kb = 20) : (ka, kb) ∈ pairsL ∧ (kb, ka) ∈ pairsL := by
  simp only [winK, List.mem_cons, List.not_mem_nil, or_false] at ha
  unfold pairsL winK
  rcases ha with (rfl | rfl | rfl | rfl | rfl | rfl | rfl | rfl | rfl | rfl | rfl | rfl | rfl | rfl) | rfl <;> rcases hb with rfl | rfl <;> exact ⟨by simp, by simp⟩
theorem jw_kind {p : Pm} {eh th2 : Int} {oa ob : Nat × List Atom} {s : MS} {wa : List Int} (h : Jw p eh th2 oa ob s wa) : (oa.1, ob.1) ∈ pairsL ∧ (ob.1, oa.1) ∈ pairsL := by
  obtain ⟨hl, ⟨hw, _, _⟩ | ⟨rfl, _⟩⟩ := h
  · have hk : (AtM p oa s).1 ∈ winK := win_kind hw
    exact pair_1 (.inl hk) (lo_kind hl)
  · exact pair_1 (.inr rfl) (lo_kind hl)
theorem jj_kind {p : Pm} {eh th2 : Int} {oa ob : Nat × List Atom} {s : MS} {wa wb : List Int} (h : JJ p eh th2 oa ob s wa wb) : (oa.1, ob.1) ∈ pairsL := by
  rcases h with h | h | h
  · rw [h.ka, h.kb]; simp [pairsL]
  · exact (jw_kind h).1
  · exact (jw_kind h).2
theorem own_of {p : Pm} {o r : Nat × List Atom} {s : MS} (h : stepK (AtM p o s) = some r) : ∃ u bo na wl, o.2 = ow o.1 u bo na wl := by
  obtain ⟨_, u, bo, na, wl, T, S, K, G, Q, l, c, s2, e⟩ := dec_all h
  exact ⟨u, bo, na, wl, (List.append_inj' e rfl).1⟩
section
variable {p : Pm} (hp : p.Ok) {eh th2 : Int} {wa wb : List Int} (he : isW eh = true) (hk : okT eh p.S = true) (hge : p.gn = genI eh)
include hp he hk hge
theorem tw_iter {ln cn : Nat} {rs : List (List Int)} (hln : ln = rs.length) (hsz : rs.length ≤ 100000) : ∀ (n : Nat) (i : Int) {oa ob : Nat × List Atom} {s : MS}, 0 ≤ i → i + n = rs.length → JJ p eh th2 oa ob s wa wb →
    ∃ oa' ob' s' j, JJ p eh th2 oa' ob' s' wa wb ∧ iterR rdT j (tw oa.1 ob.1 ln cn rs.length i rs oa.2 ob.2 (mA p.T p.S p.K p.G p.Q p.l p.c s)) = some (exT oa'.1 ob'.1 rs oa'.2 ob'.2 (mA p.T p.S p.K p.G p.Q p.l p.c s'))
  | n, i, oa, ob, s, h0, hn, h => by
    obtain ⟨a1, sa, ha, ja⟩ := jj_a hp he hk hge h
    obtain ⟨b1, sb, hb, jb⟩ := jj_b hp he hk hge h
    obtain ⟨u, bo, na, wl, ea⟩ := own_of ha
    obtain ⟨u2, b2, n2, w2, eb⟩ := own_of hb
    have hr := rt_all (jj_kind h) ln cn rs.length i rs u bo na wl u2 b2 n2 w2 p.T p.S p.K p.G p.Q p.l p.c s
    rw [← ea, ← eb] at hr
    cases n with
    | zero =>
      refine ⟨oa, ob, s, 1, h, ?_⟩
      simp only [iterR, hr, Tree.get_br, decide_eq_false (show ¬ i < (rs.length : Int) by omega), Bool.false_eq_true, if_false, Tree.get_leaf]
      rfl
    | succ n =>
      have hw : IntKind.i64.wrap (i + 1) = i + 1 := by rw [IntKind.wrap_i64]; omega
      have e1 : (rdT (tw oa.1 ob.1 ln cn rs.length i rs oa.2 ob.2 (mA p.T p.S p.K p.G p.Q p.l p.c s))).get = if (rs.getD (0 + i.toNat) []).getD 0 0 = 1 then some (.normal, tw a1.1 ob.1 ln cn rs.length (i + 1) rs a1.2 ob.2 (mA p.T p.S p.K p.G p.Q p.l p.c sa)) else some (.normal, tw oa.1 b1.1 ln cn rs.length (i + 1) rs oa.2 b1.2 (mA p.T p.S p.K p.G p.Q p.l p.c sb)) := by
        rw [hr, Tree.get_br, if_pos (decide_eq_true (show i < (rs.length : Int) by omega)), Tree.get_br, if_pos (decide_eq_true (show 0 ≤ i ∧ i < (ln : Int) by omega)), Tree.get_br, if_pos (decide_eq_true (show 0 + i.toNat < rs.length by omega)), Tree.get_br]
        have ga : (stepT oa.1 (oa.2 ++ mA p.T p.S p.K p.G p.Q p.l p.c s)).get = some (AtM p a1 sa) := ha
        have gb : (stepT ob.1 (ob.2 ++ mA p.T p.S p.K p.G p.Q p.l p.c s)).get = some (AtM { p with th := th2 } b1 sb) := hb
        by_cases hq : (rs.getD (0 + i.toNat) []).getD 0 0 = 1
        · rw [if_pos (decide_eq_true hq), if_pos hq, Tree.get_bind, ga, Option.bind_some]
          unfold nxtT AtM
          simp only [ownX_app, memX_app]
          rw [pOk_mem (jj_kind ja), hw]
          rfl
        · rw [if_neg (by simpa using hq), if_neg hq, Tree.get_bind, gb, Option.bind_some]
          unfold nxtT AtM
          simp only [ownX_app, memX_app]
          rw [pOk_mem (jj_kind jb), hw]
          rfl
      by_cases hq : (rs.getD (0 + i.toNat) []).getD 0 0 = 1
      · obtain ⟨oa', ob', s', j, h1, h2⟩ := tw_iter hln hsz n (i + 1) (by omega) (by omega) ja
        refine ⟨oa', ob', s', j + 1, h1, ?_⟩
        simp only [iterR, e1, if_pos hq]
        exact h2
      · obtain ⟨oa', ob', s', j, h1, h2⟩ := tw_iter hln hsz n (i + 1) (by omega) (by omega) jb
        refine ⟨oa', ob', s', j + 1, h1, ?_⟩
        simp only [iterR, e1, if_neg hq]
        exact h2
end
/-- Where the loop ends. -/
structure TR where
  ka : Nat
  kb : Nat
  ua : Nat → Int
  ba : Nat → Bool
  na : Nat → Nat
  wa : Nat → List Int
  ub : Nat → Int
  bb : Nat → Bool
  nb : Nat → Nat
  wb : Nat → List Int
  s : MS
def TR.A (r : TR) (k : Nat) : List Atom := ow k r.ua r.ba r.na r.wa
def TR.B (r : TR) (k : Nat) : List Atom := ow k r.ub r.bb r.nb r.wb
/-- Both end: one has done it, the other one was told no. -/
def TwOk (T S K G Q : Int) (l c : Nat) (R : TR) : Prop := (R.ka, R.kb) ∈ pairsL ∧ ∃ R1 R2 : ER, runG T S K G Q l c (400 - 0 : Int).toNat R.ka (R.A R.ka ++ mA T S K G Q l c R.s) = some R1 ∧ runG T S K G Q l c (400 - 0 : Int).toNat R.kb (R.B R.kb ++ mA T S K G Q l c R1.s) = some R2 ∧
  Good T S K G Q l R2.s.ws ∧ ((R1.e = 0 ∧ (R2.e = 2 ∨ R2.e = 3)) ∨ (R2.e = 0 ∧ (R1.e = 2 ∨ R1.e = 3))) ∧ lat T S K R2.s.ws 4 0 = newI 0 1 ∧ lat T S K R2.s.ws 8 0 = 0 ∧ lat T S K R2.s.ws 2 0 = 2
open Classical in
noncomputable def runTw (T S K G Q : Int) (l c : Nat) (rs : List (List Int)) (x : List Atom) : Option TR :=
  if h : ∃ r : TR, (∃ j, iterR rdT j x = some (exT r.ka r.kb rs (r.A r.ka) (r.B r.kb) (mA T S K G Q l c r.s))) ∧ TwOk T S K G Q l c r then some h.choose else none
def dfT : TR := ⟨0, 0, fun _ => 0, fun _ => false, fun _ => 0, fun _ => [], fun _ => 0, fun _ => false, fun _ => 0, fun _ => [], ⟨[], 0, 0, 0, 0, 0, 0, false⟩⟩
def brL {α : Type} (R : TR) (f : Nat → Nat → Tree α) : List (Nat × Nat) → Tree α
  | [] => .bad
  | p :: l => .br (decide (R.ka = p.1 ∧ R.kb = p.2)) (f p.1 p.2) (brL R f l)
noncomputable def tw_o : List Atom → Tree (Ex × List Atom)
  | .n k :: .n ln :: .n cn :: .i len :: .i i :: .rs rs :: y => match y.drop (y.length - 15) with
    | [.i T, .i S, .i K, .i G, .i Q, .n l, .n c, .i tk, .i ts, .i to, .i told, .i tnew, .b td, .i many, .ws ws] => .br (runTw T S K G Q l c rs (.n k :: .n ln :: .n cn :: .i len :: .i i :: .rs rs :: y)).isSome (brL ((runTw T S K G Q l c rs (.n k :: .n ln :: .n cn :: .i len :: .i i :: .rs rs :: y)).getD dfT) (fun ka kb => .leaf (exT ka kb rs (((runTw T S K G Q l c rs (.n k :: .n ln :: .n cn :: .i len :: .i i :: .rs rs :: y)).getD dfT).A ka) (((runTw T S K G Q l c rs (.n k :: .n ln :: .n cn :: .i len :: .i i :: .rs rs :: y)).getD dfT).B kb) (mA T S K G Q l c ((runTw T S K G Q l c rs (.n k :: .n ln :: .n cn :: .i len :: .i i :: .rs rs :: y)).getD dfT).s))) pairsL) .bad
    | _ => .bad
  | _ => .bad
theorem brL_get {α : Type} {R : TR} {f : Nat → Nat → Tree α} {r : α} : ∀ {l : List (Nat × Nat)}, (brL R f l).get = some r → (f R.ka R.kb).get = some r
  | [], h => by cases h
  | p :: l, h => by
    simp only [brL, Tree.get_br] at h
    split at h
    · rename_i hd
      obtain ⟨e1, e2⟩ := of_decide_eq_true hd
      rw [e1, e2]
      exact h
    · exact brL_get h
theorem runTw_is {T S K G Q : Int} {l c : Nat} {rs : List (List Int)} {x : List Atom} {r : TR} (h : runTw T S K G Q l c rs x = some r) : (∃ j, iterR rdT j x = some (exT r.ka r.kb rs (r.A r.ka) (r.B r.kb) (mA T S K G Q l c r.s))) ∧ TwOk T S K G Q l c r := by
  unfold runTw at h
  split at h
  · rename_i hx
    cases h
    exact hx.choose_spec
  · cases h
theorem tw_step (x : List Atom) (r : Ex × List Atom) (h : (tw_o x).get = some r) : ∃ n, iterR rdT n x = some r := by
  unfold tw_o at h
  split at h
  case h_2 => cases h
  rename_i k ln cn len i rs y
  split at h
  case h_2 => cases h
  rename_i T S K G Q l c tk ts to told tnew td many ws hx
  obtain ⟨hs, g2⟩ := get_br h
  cases hv : runTw T S K G Q l c rs (.n k :: .n ln :: .n cn :: .i len :: .i i :: .rs rs :: y) with
  | none => rw [hv] at hs; cases hs
  | some R =>
    rw [hv] at g2
    simp only [Option.getD_some] at g2
    have := brL_get g2
    simp only [Tree.get_leaf, Option.some.injEq] at this
    obtain ⟨⟨j, hj⟩, _⟩ := runTw_is hv
    exact ⟨j, hj.trans (by rw [this])⟩
theorem bodyTw_is : bodyOf 3 = some ((bodyOf 3).getD .skip) := by kernel_rfl
theorem keysTw_is : keysOk (loopsIn ((bodyOf 3).getD .skip)) = true := by kernel_rfl
theorem TM_heads : headsOk 1 TM.F.heads = true := by kernel_rfl
noncomputable def sumsTwL : Sums := withLoop sumsTw 3 9 (tmsum 1 TM.F tw_o)
theorem sumsTwL_ok : SumsOk sumsTwL := loop_ssum (fuel := 60) (S := TM) (out := tw_o) sumsTw_ok bodyTw_is keysTw_is TM_heads tw_step
end Go.Proofs.YtfccbghmagohaaaGreat.Bound
end

section
namespace Go.Proofs.YtfccbghmagohaaaGreat.Bound
open Go.Proofs.YtfccbghmagohaaaGreat.Ev Go.Proofs.YtfccbghmagohaaaGreat.ChartMath
set_option linter.unusedVariables false
set_option linter.unusedSimpArgs false
theorem runG_ends {p : Pm} {k : Nat} {x : List Atom} {e : Int} {ws : List Int} (h : Ends p 150 (k, x) e ws) : ∃ R : ER, runG p.T p.S p.K p.G p.Q p.l p.c (400 - 0 : Int).toNat k x = some R ∧ R.e = e ∧ R.s.ws = ws := by
  obtain ⟨n, s', h1, h2, h3⟩ := h
  refine ⟨⟨n, e, s'⟩, ?_, rfl, h2⟩
  rw [runG_is]
  have e0 : runK (400 - 0 : Int).toNat (k, x) = some (n, (hdE p e s').2) := h3 400 (by omega)
  have e1 : asE (hdE p e s').2 = some ⟨e, p.T, p.S, p.K, p.G, p.Q, p.l, p.c, s'⟩ := rfl
  unfold runV
  rw [e0]
  simp only [e1]
  unfold asR
  simp only
  rw [decide_eq_true (by exact ⟨trivial, trivial, trivial, trivial, trivial, trivial, trivial⟩), cond_true]
theorem runL_ends2 {p : Pm} {x : List Atom} {e : Int} {ws : List Int} (h : Ends p 150 (0, x) e ws) : ∃ R : ER, runL p.T p.S p.K p.G p.Q p.l p.c (400 - 0 : Int).toNat x = some R ∧ R.e = e ∧ R.s.ws = ws := by
  obtain ⟨n, s', h1, h2, h3⟩ := h
  refine ⟨⟨n, e, s'⟩, ?_, rfl, h2⟩
  rw [runL_is]
  have e0 : runK (400 - 0 : Int).toNat (0, x) = some (n, (hdE p e s').2) := h3 400 (by omega)
  have e1 : asE (hdE p e s').2 = some ⟨e, p.T, p.S, p.K, p.G, p.Q, p.l, p.c, s'⟩ := rfl
  unfold runV
  rw [e0]
  simp only [e1]
  unfold asR
  simp only
  rw [decide_eq_true (by exact ⟨trivial, trivial, trivial, trivial, trivial, trivial, trivial⟩), cond_true]
/-- The words that both find. -/
def twW (S K : Int) (n : Nat) : List Int := lset 2 S K (lset 2 S K (List.replicate n 0) 4 0 (newI 5 0)) 8 0 4097
def ow0 (S K G Q th sl gn : Int) : List Atom := [.i 2, .i S, .i K, .i G, .i Q, .i th, .i sl, .i gn, .b false, .i 0, .i (slI 1), .i 0, .i 1, .n 4, .n 4, .b false, .b false, .i 0, .i 0, .ws [4, 5, 6, 7]]
/-- What is asked of the words that are left. -/
def Left (S K G Q : Int) (l : Nat) (ws : List Int) : Prop := Good 2 S K G Q l ws ∧ lat 2 S K ws 4 0 = newI 0 1 ∧ lat 2 S K ws 8 0 = 0 ∧ lat 2 S K ws 2 0 = 2
theorem two_left {S K G Q own : Int} (hR : right 2 S K G Q = true) :
    let p := pmOf 2 S K G Q own 1 (lenOf 2 S K).toNat
    let ws := twW S K (lenOf 2 S K).toNat
    p.Ok ∧ p.good ws ∧ (∀ k, 0 ≤ k → k < p.T → p.at ws 3 k = 0) ∧ p.at ws 4 p.sl = newI 5 p.gn ∧ (sweptI p ws).1 = 0 ∧ Left S K G Q (lenOf 2 S K).toNat (sweptI p ws).2 := by
  intro p ws
  have hR' := hR
  simp only [right, decide_eq_true_eq] at hR'
  have hk : okT 1 S = true := by
    have : okT 1 S = decide ((0 : Int) < S) := by simp [okT, slB, slI, genI]
    rw [this]; exact decide_eq_true (by omega)
  have hp : p.Ok := pmOf_ok rfl hk
  have hlo : lenOf 2 S K = 2 + 2 + 4 * S + K := rfl
  have gz : Good 2 S K G Q (lenOf 2 S K).toNat (List.replicate (lenOf 2 S K).toNat 0) := ⟨hR, List.length_replicate, by omega, fun w hw => by rw [List.eq_of_mem_replicate hw]; omega⟩
  have w5 : 0 ≤ newI 5 0 ∧ newI 5 0 < 18446744073709551616 := newI_word (by omega) (by omega) (by omega) (by omega)
  have g1 := gz.lset w5 4 0
  have g2 : p.good ws := g1.lset (show (0 : Int) ≤ 4097 ∧ (4097 : Int) < 18446744073709551616 by omega) 8 0
  have c4 : cellOf 2 S K 4 0 = 4 := by rw [cell_st (by omega) (by omega) (by omega) (by omega)]; omega
  have c8 : cellOf 2 S K 8 0 = 4 + 4 * S := by rw [cell_key (by omega) (by omega)]; omega
  have c2 : cellOf 2 S K 2 0 = 1 := cell_ep
  have aoff : ∀ k o : Int, cellOf 2 S K k o ≠ 4 → cellOf 2 S K k o ≠ 4 + 4 * S → p.at ws k o = 0 := fun k o h4 h8 => by
    show lat 2 S K (twW S K (lenOf 2 S K).toNat) k o = _
    unfold twW
    rw [lat_other (by omega), lat_other (by omega)]
    exact lat_zero
  have a4 : p.at ws 4 p.sl = newI 5 p.gn := by
    show lat 2 S K (twW S K (lenOf 2 S K).toNat) 4 0 = _
    unfold twW
    rw [lat_other (by omega)]
    exact lat_same (by omega) (by rw [List.length_replicate]; omega)
  have a8 : p.at ws 8 0 = 4097 := by
    show lat 2 S K (twW S K (lenOf 2 S K).toNat) 8 0 = _
    unfold twW
    exact lat_same (by omega) (by rw [lset_len, List.length_replicate]; omega)
  have a3 : ∀ k, 0 ≤ k → k < p.T → p.at ws 3 k = 0 := fun k k0 k1 => by
    have : cellOf 2 S K 3 k = 2 + k := cell_pin k0 k1
    have k1 : k < 2 := k1
    exact aoff 3 k (by omega) (by omega)
  have a2 : p.at ws 2 0 = 0 := aoff 2 0 (by omega) (by omega)
  obtain ⟨t1, t2, t3, t4⟩ := two_plain hp g2 a3 a4
  refine ⟨hp, g2, a3, a4, t1, swept_good hp g2, t2, ?_, ?_⟩
  · have := t3 0 (by omega) (by show (0 : Int) < K; omega)
    rw [a8] at this
    exact this.trans (by show dropM 4097 0 = 0; rfl)
  · rw [a2] at t4
    exact t4
theorem two_jj {S K G Q : Int} (hR : right 2 S K G Q = true) {s : MS} (hs : s.ws = twW S K (lenOf 2 S K).toNat) :
    let p := pmOf 2 S K G Q 0 1 (lenOf 2 S K).toNat
    JJ p 1 1 (0, ow0 S K G Q 0 (slI 1) (genI 1)) (0, ow0 S K G Q 1 (slI 1) (genI 1)) s (sweptI p s.ws).2 (sweptI { p with th := 1 } s.ws).2 := by
  intro p
  obtain ⟨hp, hg, h3, h4, e1, _⟩ := two_left (own := 0) hR
  obtain ⟨hq, kg, k3, k4, f1, _⟩ := two_left (own := 1) hR
  rw [← hs] at hg h3 h4 e1 kg f1
  have hR' := hR
  simp only [right, decide_eq_true_eq] at hR'
  have hk : okT 1 S = true := by
    have : okT 1 S = decide ((0 : Int) < S) := by simp [okT, slB, slI, genI]
    rw [this]; exact decide_eq_true (by omega)
  have ea := e_all hp (s := s) (es := 0) (eh := 1) (ew := 0) (ec := 4) hg rfl hk rfl
  have eb := e_all hq (s := s) (es := 0) (eh := 1) (ew := 0) (ec := 4) kg rfl hk rfl
  rw [e1] at ea
  rw [f1] at eb
  exact .inl ⟨.look (p := p) (eh := 1) 0 0 4, rfl, .look (p := { p with th := 1 }) (eh := 1) 0 0 4, rfl, hg, h3, h4, ea, eb⟩
theorem two_both {S K G Q : Int} (hR : right 2 S K G Q = true) {s : MS} (hs : s.ws = twW S K (lenOf 2 S K).toNat) {oa ob : Nat × List Atom} {s' : MS}
    (h : JJ (pmOf 2 S K G Q 0 1 (lenOf 2 S K).toNat) 1 1 oa ob s' (sweptI (pmOf 2 S K G Q 0 1 (lenOf 2 S K).toNat) s.ws).2 (sweptI { pmOf 2 S K G Q 0 1 (lenOf 2 S K).toNat with th := 1 } s.ws).2) :
    ∃ ea eb w1 w2, Ends (pmOf 2 S K G Q 0 1 (lenOf 2 S K).toNat) 150 (AtM (pmOf 2 S K G Q 0 1 (lenOf 2 S K).toNat) oa s') ea w1 ∧ (∀ s2 : MS, s2.ws = w1 → Ends { pmOf 2 S K G Q 0 1 (lenOf 2 S K).toNat with th := 1 } 150 (AtM { pmOf 2 S K G Q 0 1 (lenOf 2 S K).toNat with th := 1 } ob s2) eb w2) ∧ ((ea = 0 ∧ (eb = 2 ∨ eb = 3)) ∨ (eb = 0 ∧ (ea = 2 ∨ ea = 3))) ∧ Left S K G Q (lenOf 2 S K).toNat w2 := by
  obtain ⟨hp, _, _, _, _, la⟩ := two_left (own := 0) hR
  obtain ⟨_, _, _, _, _, lb⟩ := two_left (own := 1) hR
  rw [← hs] at la lb
  have hR' := hR
  simp only [right, decide_eq_true_eq] at hR'
  have hk : okT 1 S = true := by
    have : okT 1 S = decide ((0 : Int) < S) := by simp [okT, slB, slI, genI]
    rw [this]; exact decide_eq_true (by omega)
  obtain ⟨ea, eb, w1, w2, h1, h2, h3⟩ := jj_both hp (eh := 1) (th2 := 1) rfl hk rfl h la.1 (.inr (by rw [show (pmOf 2 S K G Q 0 1 (lenOf 2 S K).toNat).at (sweptI (pmOf 2 S K G Q 0 1 (lenOf 2 S K).toNat) s.ws).2 4 (pmOf 2 S K G Q 0 1 (lenOf 2 S K).toNat).sl = newI 0 1 from la.2.1]; exact (by decide : gnI (newI 0 1) ≠ genI 1)))
  refine ⟨ea, eb, w1, w2, h1, h2, ?_, ?_⟩
  · rcases h3 with ⟨a, b, _⟩ | ⟨a, b, _⟩
    · exact .inl ⟨a, b⟩
    · exact .inr ⟨a, b⟩
  · rcases h3 with ⟨_, _, rfl⟩ | ⟨_, _, rfl⟩
    · exact la
    · exact lb
/-- The loop's head, where it is entered. -/
def twX (S K G Q : Int) (ln cn : Nat) (rs : List (List Int)) (l : Nat) (sl gn : Int) (s : MS) : List Atom := tw 0 0 ln cn ln 0 rs (ow0 S K G Q 0 sl gn) (ow0 S K G Q 1 sl gn) (mA 2 S K G Q l l s)
theorem runTw_all {S K G Q : Int} (hR : right 2 S K G Q = true) {s : MS} (hs : s.ws = twW S K (lenOf 2 S K).toNat) (rs : List (List Int)) (cn : Nat) (hsz : rs.length ≤ 100000) :
    ∃ R, runTw 2 S K G Q (lenOf 2 S K).toNat (lenOf 2 S K).toNat rs (twX S K G Q rs.length cn rs (lenOf 2 S K).toNat (slI 1) (genI 1) s) = some R ∧ TwOk 2 S K G Q (lenOf 2 S K).toNat (lenOf 2 S K).toNat R := by
  obtain ⟨hp, _⟩ := two_left (own := 0) hR
  have hR' := hR
  simp only [right, decide_eq_true_eq] at hR'
  have hk : okT 1 S = true := by
    have : okT 1 S = decide ((0 : Int) < S) := by simp [okT, slB, slI, genI]
    rw [this]; exact decide_eq_true (by omega)
  obtain ⟨oa, ob, s', j, h1, h2⟩ := tw_iter hp (eh := 1) (th2 := 1) rfl hk rfl (ln := rs.length) (cn := cn) rfl hsz rs.length 0 (by omega) (by omega) (two_jj hR hs)
  obtain ⟨a1, sa, ha, _⟩ := jj_a hp rfl hk rfl h1
  obtain ⟨b1, sb, hb, _⟩ := jj_b hp rfl hk rfl h1
  obtain ⟨u, bo, na, wl, ea⟩ := own_of ha
  obtain ⟨u2, b2, n2, w2, eb⟩ := own_of hb
  obtain ⟨e1, e2, v1, v2, k1, k2, k3, k4⟩ := two_both hR hs h1
  obtain ⟨R1, r1, r2, r3⟩ := runG_ends k1
  obtain ⟨R2, q1, q2, q3⟩ := runG_ends (k2 R1.s r3)
  have hex : ∃ r : TR, (∃ j, iterR rdT j (twX S K G Q rs.length cn rs (lenOf 2 S K).toNat (slI 1) (genI 1) s) = some (exT r.ka r.kb rs (r.A r.ka) (r.B r.kb) (mA 2 S K G Q (lenOf 2 S K).toNat (lenOf 2 S K).toNat r.s))) ∧ TwOk 2 S K G Q (lenOf 2 S K).toNat (lenOf 2 S K).toNat r := by
    refine ⟨⟨oa.1, ob.1, u, bo, na, wl, u2, b2, n2, w2, s'⟩, ⟨j, ?_⟩, jj_kind h1, R1, R2, ?_, ?_, ?_, ?_, ?_⟩
    · unfold TR.A TR.B
      simp only
      rw [← ea, ← eb]
      exact h2
    · unfold TR.A
      simp only
      rw [← ea]
      exact r1
    · unfold TR.B
      simp only
      rw [← eb]
      exact q1
    · rw [q3]; exact k4.1
    · rw [r2, q2]; exact k3
    · rw [q3]; exact k4.2
  unfold runTw
  rw [dif_pos hex]
  exact ⟨_, rfl, hex.choose_spec.2⟩
end Go.Proofs.YtfccbghmagohaaaGreat.Bound
end
