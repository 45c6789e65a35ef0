/- What is open in a form, as a list over functions. No condition. -/
import Derived.Test.YtifojacfedjedaaGreatEvSelQ
namespace Go.Proofs.YtifojacfedjedaaGreat.Ev
set_option linter.unusedVariables false
set_option linter.unusedSimpArgs false
/-- What an open place holds. -/
inductive Tg where
  | i | b | n | w
mutual
def tgV : Pat → List Tg
  | .int _ => [.i]
  | .bool => [.b]
  | .ptrN _ _ => [.n]
  | .slice _ _ _ => [.n, .n]
  | .sliceN _ _ => [.n, .n, .n]
  | .func _ ps qs => tgL ps ++ tgL qs
  | .iface _ p => tgV p
  | .agg ps => tgL ps
  | .tuple ps => tgL ps
  | _ => []
def tgL : List Pat → List Tg
  | [] => []
  | p :: l => tgV p ++ tgL l
end
def tgC : CPat → List Tg
  | .vals ps => tgL ps
  | .ints _ => [.w]
  | .recs _ => []
  | .part _ ps => tgL ps
def tgB : List (Nat × TypeId × CPat) → List Tg
  | [] => []
  | (_, _, c) :: l => tgC c ++ tgB l
def atomsT (u : Nat → Int) (bo : Nat → Bool) (na : Nat → Nat) (wl : Nat → List Int) : List Tg → Nat → Nat → Nat → Nat → List Atom
  | [], _, _, _, _ => []
  | .i :: l, i, b, n, w => .i (u i) :: atomsT u bo na wl l (i + 1) b n w
  | .b :: l, i, b, n, w => .b (bo b) :: atomsT u bo na wl l i (b + 1) n w
  | .n :: l, i, b, n, w => .n (na n) :: atomsT u bo na wl l i b (n + 1) w
  | .w :: l, i, b, n, w => .ws (wl w) :: atomsT u bo na wl l i b n (w + 1)
def tagsOf : List Atom → Option (List Tg)
  | [] => some []
  | .i _ :: l => (tagsOf l).map (.i :: ·)
  | .b _ :: l => (tagsOf l).map (.b :: ·)
  | .n _ :: l => (tagsOf l).map (.n :: ·)
  | .ws _ :: l => (tagsOf l).map (.w :: ·)
  | _ => none
theorem atomsT_congr {u u2 : Nat → Int} {bo bo2 : Nat → Bool} {na na2 : Nat → Nat} {wl wl2 : Nat → List Int} : ∀ (l : List Tg) (i b n w : Nat), (∀ j, i ≤ j → u j = u2 j) → (∀ j, b ≤ j → bo j = bo2 j) → (∀ j, n ≤ j → na j = na2 j) → (∀ j, w ≤ j → wl j = wl2 j) → atomsT u bo na wl l i b n w = atomsT u2 bo2 na2 wl2 l i b n w
  | [], i, b, n, w, _, _, _, _ => rfl
  | .i :: l, i, b, n, w, h1, h2, h3, h4 => by
    simp only [atomsT]
    rw [h1 i (Nat.le_refl _), atomsT_congr l (i + 1) b n w (fun j hj => h1 j (by omega)) h2 h3 h4]
  | .b :: l, i, b, n, w, h1, h2, h3, h4 => by
    simp only [atomsT]
    rw [h2 b (Nat.le_refl _), atomsT_congr l i (b + 1) n w h1 (fun j hj => h2 j (by omega)) h3 h4]
  | .n :: l, i, b, n, w, h1, h2, h3, h4 => by
    simp only [atomsT]
    rw [h3 n (Nat.le_refl _), atomsT_congr l i b (n + 1) w h1 h2 (fun j hj => h3 j (by omega)) h4]
  | .w :: l, i, b, n, w, h1, h2, h3, h4 => by
    simp only [atomsT]
    rw [h4 w (Nat.le_refl _), atomsT_congr l i b n (w + 1) h1 h2 h3 (fun j hj => h4 j (by omega))]
/-- Whatever has these places is such a list. -/
theorem atomsT_all : ∀ {x : List Atom} {l : List Tg}, tagsOf x = some l → ∀ i b n w, ∃ u bo na wl, x = atomsT u bo na wl l i b n w
  | [], l, h, i, b, n, w => by
    simp only [tagsOf, Option.some.injEq] at h
    subst h
    exact ⟨fun _ => 0, fun _ => false, fun _ => 0, fun _ => [], rfl⟩
  | .i v :: x, l, h, i, b, n, w => by
    simp only [tagsOf, Option.map_eq_some_iff] at h
    obtain ⟨l, h, rfl⟩ := h
    obtain ⟨u, bo, na, wl, e⟩ := atomsT_all h (i + 1) b n w
    refine ⟨fun j => if j = i then v else u j, bo, na, wl, ?_⟩
    simp only [atomsT, if_true]
    rw [e]
    congr 1
    exact atomsT_congr l _ _ _ _ (fun j hj => by rw [if_neg (by omega)]) (fun _ _ => rfl) (fun _ _ => rfl) (fun _ _ => rfl)
  | .b v :: x, l, h, i, b, n, w => by
    simp only [tagsOf, Option.map_eq_some_iff] at h
    obtain ⟨l, h, rfl⟩ := h
    obtain ⟨u, bo, na, wl, e⟩ := atomsT_all h i (b + 1) n w
    refine ⟨u, fun j => if j = b then v else bo j, na, wl, ?_⟩
    simp only [atomsT, if_true]
    rw [e]
    congr 1
    exact atomsT_congr l _ _ _ _ (fun _ _ => rfl) (fun j hj => by rw [if_neg (by omega)]) (fun _ _ => rfl) (fun _ _ => rfl)
  | .n v :: x, l, h, i, b, n, w => by
    simp only [tagsOf, Option.map_eq_some_iff] at h
    obtain ⟨l, h, rfl⟩ := h
    obtain ⟨u, bo, na, wl, e⟩ := atomsT_all h i b (n + 1) w
    refine ⟨u, bo, fun j => if j = n then v else na j, wl, ?_⟩
    simp only [atomsT, if_true]
    rw [e]
    congr 1
    exact atomsT_congr l _ _ _ _ (fun _ _ => rfl) (fun _ _ => rfl) (fun j hj => by rw [if_neg (by omega)]) (fun _ _ => rfl)
  | .ws v :: x, l, h, i, b, n, w => by
    simp only [tagsOf, Option.map_eq_some_iff] at h
    obtain ⟨l, h, rfl⟩ := h
    obtain ⟨u, bo, na, wl, e⟩ := atomsT_all h i b n (w + 1)
    refine ⟨u, bo, na, fun j => if j = w then v else wl j, ?_⟩
    simp only [atomsT, if_true]
    rw [e]
    congr 1
    exact atomsT_congr l _ _ _ _ (fun _ _ => rfl) (fun _ _ => rfl) (fun _ _ => rfl) (fun j hj => by rw [if_neg (by omega)])
  | .s _ :: x, l, h, _, _, _, _ => by cases h
  | .rs _ :: x, l, h, _, _, _, _ => by cases h
  | .v _ :: x, l, h, _, _, _, _ => by cases h
end Go.Proofs.YtifojacfedjedaaGreat.Ev
