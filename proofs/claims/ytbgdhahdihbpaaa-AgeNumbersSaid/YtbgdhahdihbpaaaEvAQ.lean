/- EV: values whose blocks are numbers of our own, heaps of them, answers with branches; how they stand for a world's. No condition. EV: a heap of ours stands for a world's. No condition. EV: what each operation comes to, over a heap of ours. No condition. EV: an operation, over a heap of ours. No condition. EV: what an operation comes to over a heap of ours, it comes to in a world. No condition. EV: the operations that look at memory, and those with ways; all operations. No condition. EV: structs and slices that are built; loads and stores. No condition. EV: copy and append. No condition. EV: stores, makes, builtins; all operations. No condition. -/
import Derived.Calls
import Derived.Orders
import Derived.Laws.OwnMore
import Derived.Laws.Tables
import Derived.Laws.Rows
import Derived.WalkKit
import Derived.Laws.MakeOwn
import Derived.Laws.AppendOwn
section
namespace Go.Proofs.Ytbgdhahdihbpaaa.Ev
set_option linter.unusedVariables false
set_option linter.unusedSimpArgs false

/-- Which block a number is, and how much room is behind the slices into it. -/
structure Val where
  blk : Nat → Nat
  room : Nat → Nat

mutual
def conc (ρ : Val) : Value → Value
  | .pointer (some a) => .pointer (some { a with block := ρ.blk a.block })
  | .slice (some a) l c => .slice (some { a with block := ρ.blk a.block }) l (c + ρ.room a.block)
  | .map (some r) => .map (some (ρ.blk r))
  | .func fn a b => .func fn (concA ρ a) (concA ρ b)
  | .iface t v => .iface t (conc ρ v)
  | .agg cs => .agg (concA ρ cs)
  | .tuple vs => .tuple (concA ρ vs)
  | v => v
def concA (ρ : Val) : Array Value → Array Value
  | ⟨l⟩ => ⟨concL ρ l⟩
def concL (ρ : Val) : List Value → List Value
  | [] => []
  | v :: l => conc ρ v :: concL ρ l
end

theorem concL_eq (ρ : Val) (l : List Value) : concL ρ l = l.map (conc ρ) := by
  induction l with
  | nil => simp [concL]
  | cons v l ih => simp [concL, ih]
theorem concA_eq (ρ : Val) (a : Array Value) : concA ρ a = a.map (conc ρ) := by
  obtain ⟨l⟩ := a
  simp [concA, concL_eq]
@[simp] theorem concA_size (ρ : Val) (a : Array Value) : (concA ρ a).size = a.size := by simp [concA_eq]
@[simp] theorem concL_length (ρ : Val) (a : List Value) : (concL ρ a).length = a.length := by simp [concL_eq]

mutual
/-- Nothing in it names a block. -/
def plain : Value → Bool
  | .pointer (some _) => false
  | .slice (some _) _ _ => false
  | .map (some _) => false
  | .func _ a b => plainA a && plainA b
  | .iface _ v => plain v
  | .agg cs => plainA cs
  | .tuple vs => plainA vs
  | _ => true
def plainA : Array Value → Bool
  | ⟨l⟩ => plainL l
def plainL : List Value → Bool
  | [] => true
  | v :: l => plain v && plainL l
end

mutual
theorem conc_plain (ρ : Val) : ∀ v : Value, plain v = true → conc ρ v = v
  | .pointer (some _), h => by simp [plain] at h
  | .pointer none, _ => by simp [conc]
  | .slice (some _) _ _, h => by simp [plain] at h
  | .slice none _ _, _ => by simp [conc]
  | .map (some _), h => by simp [plain] at h
  | .map none, _ => by simp [conc]
  | .func _ a b, h => by
    simp [plain] at h
    simp [conc, concA_plain ρ a h.1, concA_plain ρ b h.2]
  | .iface _ v, h => by
    simp [plain] at h
    simp [conc, conc_plain ρ v h]
  | .agg cs, h => by
    simp [plain] at h
    simp [conc, concA_plain ρ cs h]
  | .tuple cs, h => by
    simp [plain] at h
    simp [conc, concA_plain ρ cs h]
  | .bool _, _ => by simp [conc]
  | .int _ _, _ => by simp [conc]
  | .float _ _, _ => by simp [conc]
  | .complex _ _ _, _ => by simp [conc]
  | .string _, _ => by simp [conc]
  | .chan _, _ => by simp [conc]
  | .nilFunc, _ => by simp [conc]
  | .nilIface, _ => by simp [conc]
theorem concA_plain (ρ : Val) : ∀ a : Array Value, plainA a = true → concA ρ a = a
  | ⟨l⟩, h => by simp [plainA] at h; simp [concA, concL_plain ρ l h]
theorem concL_plain (ρ : Val) : ∀ l : List Value, plainL l = true → concL ρ l = l
  | [], _ => by simp [concL]
  | v :: l, h => by
    simp [plainL] at h
    simp [concL, conc_plain ρ v h.1, concL_plain ρ l h.2]
end

/-- What a block holds: values, or numbers of one kind. -/
inductive Cells where
  | vals (l : List Value)
  | ints (k : IntKind) (ws : List Int)
def Cells.list : Cells → List Value
  | .vals l => l
  | .ints k ws => ws.map (.int k)
structure Blk where
  t : TypeId
  c : Cells

/-- A table by number. -/
inductive Tr (α : Type) where
  | nil
  | node (v : Option α) (l r : Tr α)
def Tr.get {α : Type} : Tr α → Nat → Option α
  | .nil, _ => none
  | .node v l r, i => match i with
    | 0 => v
    | j + 1 => cond (j % 2 == 0) (l.get (j / 2)) (r.get (j / 2))
def Tr.set {α : Type} : Nat → Tr α → Nat → Option α → Tr α
  | 0, t, _, _ => t
  | n + 1, .nil, i, v => match i with
    | 0 => .node v .nil .nil
    | j + 1 => cond (j % 2 == 0) (.node none (Tr.set n .nil (j / 2) v) .nil) (.node none .nil (Tr.set n .nil (j / 2) v))
  | n + 1, .node u l r, i, v => match i with
    | 0 => .node v l r
    | j + 1 => cond (j % 2 == 0) (.node u (Tr.set n l (j / 2) v) r) (.node u l (Tr.set n r (j / 2) v))
theorem Tr.get_set {α : Type} : ∀ (n : Nat) (t : Tr α) (i j : Nat) (v : Option α), i < n → (Tr.set n t i v).get j = if i = j then v else t.get j := by
  intro n
  induction n with
  | zero => intro t i j v h; omega
  | succ n ih =>
    intro t i j v h
    cases t with
    | nil =>
      cases i with
      | zero => cases j <;> simp [Tr.set, Tr.get]
      | succ i =>
        cases j with
        | zero => simp only [Tr.set]; cases hc : (i % 2 == 0) <;> simp [Tr.get]
        | succ j =>
          simp only [Tr.set]
          cases hc : (i % 2 == 0) <;> simp only [cond, Tr.get] <;> cases hd : (j % 2 == 0) <;> simp only [cond, Tr.get] <;> simp at hc hd
          · rw [ih _ _ _ _ (by omega)]
            simp only [Tr.get]
            by_cases e : i = j
            · subst e; simp
            · rw [if_neg (by omega), if_neg (by omega)]
          · rw [if_neg (by omega)]
          · rw [if_neg (by omega)]
          · rw [ih _ _ _ _ (by omega)]
            simp only [Tr.get]
            by_cases e : i = j
            · subst e; simp
            · rw [if_neg (by omega), if_neg (by omega)]
    | node u l r =>
      cases i with
      | zero => cases j <;> simp [Tr.set, Tr.get]
      | succ i =>
        cases j with
        | zero => simp only [Tr.set]; cases hc : (i % 2 == 0) <;> simp [Tr.get]
        | succ j =>
          simp only [Tr.set]
          cases hc : (i % 2 == 0) <;> simp only [cond, Tr.get] <;> cases hd : (j % 2 == 0) <;> simp only [cond, Tr.get] <;> simp at hc hd
          · rw [ih _ _ _ _ (by omega)]
            by_cases e : i = j
            · subst e; simp
            · rw [if_neg (by omega), if_neg (by omega)]
          · rw [if_neg (by omega)]
          · rw [if_neg (by omega)]
          · rw [ih _ _ _ _ (by omega)]
            by_cases e : i = j
            · subst e; simp
            · rw [if_neg (by omega), if_neg (by omega)]

/-- A heap, as what each number holds; numbers from n on are not yet used. -/
structure Heap where
  get : Nat → Option Blk
  n : Nat
def Heap.set (H : Heap) (i : Nat) (v : Option Blk) : Heap := ⟨fun j => if i = j then v else H.get j, H.n⟩
@[simp] theorem Heap.get_set (H : Heap) (i j : Nat) (v : Option Blk) : (H.set i v).get j = if i = j then v else H.get j := rfl
@[simp] theorem Heap.n_set (H : Heap) (i : Nat) (v : Option Blk) : (H.set i v).n = H.n := rfl
/-- A heap as a table. -/
structure TH where
  tr : Tr Blk
  n : Nat
def TH.get (H : TH) (i : Nat) : Option Blk := H.tr.get i
def TH.set (H : TH) (i : Nat) (v : Option Blk) : TH := ⟨Tr.set (i + 1) H.tr i v, H.n⟩
def TH.sem (H : TH) : Heap := ⟨H.get, H.n⟩
@[simp] theorem TH.get_set (H : TH) (i j : Nat) (v : Option Blk) : (H.set i v).get j = if i = j then v else H.get j := Tr.get_set _ _ _ _ _ (Nat.lt_succ_self i)
@[simp] theorem TH.n_set (H : TH) (i : Nat) (v : Option Blk) : (H.set i v).n = H.n := rfl
@[simp] theorem TH.sem_set (H : TH) (i : Nat) (v : Option Blk) : (H.set i v).sem = H.sem.set i v := by
  unfold TH.sem Heap.set
  congr 1
  funext j
  exact TH.get_set H i j v
/-- A frame's slots: those that are known. -/
structure TT where
  tr : Tr Value
  n : Nat
def TT.get (T : TT) (i : Nat) : Option Value := T.tr.get i
def TT.set (T : TT) (i : Nat) (v : Option Value) : TT := ⟨Tr.set (i + 1) T.tr i v, T.n⟩
@[simp] theorem TT.get_set (T : TT) (i j : Nat) (v : Option Value) : (T.set i v).get j = if i = j then v else T.get j := Tr.get_set _ _ _ _ _ (Nat.lt_succ_self i)
@[simp] theorem TT.n_set (T : TT) (i : Nat) (v : Option Value) : (T.set i v).n = T.n := rfl

/-- An answer: it may hang on what is not known. -/
inductive Tree (α : Type) where
  | leaf (a : α)
  | bad
  | br (b : Bool) (t e : Tree α)
def Tree.bind {α β : Type} : Tree α → (α → Tree β) → Tree β
  | .leaf a, k => k a
  | .bad, _ => .bad
  | .br b t e, k => .br b (t.bind k) (e.bind k)
def Tree.get {α : Type} : Tree α → Option α
  | .leaf a => some a
  | .bad => none
  | .br b t e => cond b t.get e.get
/-- What has to hold of the answer, holds. -/
def Tree.den {α : Type} (K : α → Prop) : Tree α → Prop
  | .leaf a => K a
  | .bad => False
  | .br b t e => cond b (t.den K) (e.den K)
section
variable {α β : Type}
@[simp] theorem Tree.get_leaf (a : α) : (Tree.leaf a).get = some a := rfl
@[simp] theorem Tree.get_bad : (Tree.bad : Tree α).get = none := rfl
@[simp] theorem Tree.get_br (b : Bool) (t e : Tree α) : (Tree.br b t e).get = if b = true then t.get else e.get := by cases b <;> rfl
@[simp] theorem Tree.get_bind (t : Tree α) (k : α → Tree β) : (t.bind k).get = t.get.bind fun a => (k a).get := by
  induction t with
  | leaf a => rfl
  | bad => rfl
  | br b x y ihx ihy => cases b <;> simp [Tree.bind, Tree.get] <;> first | exact ihx | exact ihy
theorem Tree.den_iff (K : α → Prop) (t : Tree α) : t.den K ↔ ∃ a, t.get = some a ∧ K a := by
  induction t with
  | leaf a => simp [Tree.den]
  | bad => simp [Tree.den]
  | br b x y ihx ihy => cases b <;> simp [Tree.den, ihx, ihy]
@[simp] theorem Tree.den_bind (K : β → Prop) (t : Tree α) (k : α → Tree β) : (t.bind k).den K = t.den fun a => (k a).den K := by
  induction t with
  | leaf a => rfl
  | bad => rfl
  | br b x y ihx ihy => simp only [Tree.bind, Tree.den] at *; rw [← ihx, ← ihy]
end
/-- An answer that may be none, as one. -/
def ofOpt {α β : Type} : Option α → (α → Tree β) → Tree β
  | none, _ => .bad
  | some a, k => k a
@[simp] theorem get_ofOpt {α β : Type} (o : Option α) (k : α → Tree β) : (ofOpt o k).get = o.bind fun a => (k a).get := by cases o <;> rfl
end Go.Proofs.Ytbgdhahdihbpaaa.Ev
end

section
namespace Go.Proofs.Ytbgdhahdihbpaaa.Ev
set_option linter.unusedVariables false
set_option linter.unusedSimpArgs false

mutual
/-- Every number that is named in it is known. -/
def sc (K : Nat → Prop) : Value → Prop
  | .pointer (some a) => K a.block
  | .slice (some a) _ _ => K a.block
  | .map (some r) => K r
  | .func _ a b => scA K a ∧ scA K b
  | .iface _ v => sc K v
  | .agg cs => scA K cs
  | .tuple vs => scA K vs
  | _ => True
def scA (K : Nat → Prop) : Array Value → Prop
  | ⟨l⟩ => scL K l
def scL (K : Nat → Prop) : List Value → Prop
  | [] => True
  | v :: l => sc K v ∧ scL K l
end
theorem scL_iff {K : Nat → Prop} {l : List Value} : scL K l ↔ ∀ v ∈ l, sc K v := by
  induction l with
  | nil => simp [scL]
  | cons v l ih => simp [scL, ih]
theorem scA_iff {K : Nat → Prop} {a : Array Value} : scA K a ↔ ∀ v ∈ a.toList, sc K v := by
  obtain ⟨l⟩ := a
  simp [scA, scL_iff]

mutual
theorem sc_plain (K : Nat → Prop) : ∀ v : Value, plain v = true → sc K v
  | .pointer (some _), h => by simp [plain] at h
  | .pointer none, _ => by simp [sc]
  | .slice (some _) _ _, h => by simp [plain] at h
  | .slice none _ _, _ => by simp [sc]
  | .map (some _), h => by simp [plain] at h
  | .map none, _ => by simp [sc]
  | .func _ a b, h => by simp [plain] at h; simp [sc, scA_plain K a h.1, scA_plain K b h.2]
  | .iface _ v, h => by simp [plain] at h; simp [sc, sc_plain K v h]
  | .agg cs, h => by simp [plain] at h; simp [sc, scA_plain K cs h]
  | .tuple cs, h => by simp [plain] at h; simp [sc, scA_plain K cs h]
  | .bool _, _ => by simp [sc]
  | .int _ _, _ => by simp [sc]
  | .float _ _, _ => by simp [sc]
  | .complex _ _ _, _ => by simp [sc]
  | .string _, _ => by simp [sc]
  | .chan _, _ => by simp [sc]
  | .nilFunc, _ => by simp [sc]
  | .nilIface, _ => by simp [sc]
theorem scA_plain (K : Nat → Prop) : ∀ a : Array Value, plainA a = true → scA K a
  | ⟨l⟩, h => by simp [plainA] at h; simp [scA, scL_plain K l h]
theorem scL_plain (K : Nat → Prop) : ∀ l : List Value, plainL l = true → scL K l
  | [], _ => by simp [scL]
  | v :: l, h => by simp [plainL] at h; simp [scL, sc_plain K v h.1, scL_plain K l h.2]
end
mutual
theorem sc_mono {K K' : Nat → Prop} (hk : ∀ i, K i → K' i) : ∀ v : Value, sc K v → sc K' v
  | .pointer (some _), h => by simp [sc] at *; exact hk _ h
  | .pointer none, _ => by simp [sc]
  | .slice (some _) _ _, h => by simp [sc] at *; exact hk _ h
  | .slice none _ _, _ => by simp [sc]
  | .map (some _), h => by simp [sc] at *; exact hk _ h
  | .map none, _ => by simp [sc]
  | .func _ a b, h => by simp [sc] at *; exact ⟨scA_mono hk a h.1, scA_mono hk b h.2⟩
  | .iface _ v, h => by simp [sc] at *; exact sc_mono hk v h
  | .agg cs, h => by simp [sc] at *; exact scA_mono hk cs h
  | .tuple cs, h => by simp [sc] at *; exact scA_mono hk cs h
  | .bool _, _ => by simp [sc]
  | .int _ _, _ => by simp [sc]
  | .float _ _, _ => by simp [sc]
  | .complex _ _ _, _ => by simp [sc]
  | .string _, _ => by simp [sc]
  | .chan _, _ => by simp [sc]
  | .nilFunc, _ => by simp [sc]
  | .nilIface, _ => by simp [sc]
theorem scA_mono {K K' : Nat → Prop} (hk : ∀ i, K i → K' i) : ∀ a : Array Value, scA K a → scA K' a
  | ⟨l⟩, h => by simp [scA] at *; exact scL_mono hk l h
theorem scL_mono {K K' : Nat → Prop} (hk : ∀ i, K i → K' i) : ∀ l : List Value, scL K l → scL K' l
  | [], _ => by simp [scL]
  | v :: l, h => by simp [scL] at *; exact ⟨sc_mono hk v h.1, scL_mono hk l h.2⟩
end
/-- Two tables that agree on what is known. -/
structure Same (K : Nat → Prop) (ρ ρ' : Val) : Prop where
  blk : ∀ i, K i → ρ'.blk i = ρ.blk i
  room : ∀ i, K i → ρ'.room i = ρ.room i
theorem Same.refl (K : Nat → Prop) (ρ : Val) : Same K ρ ρ := ⟨fun _ _ => rfl, fun _ _ => rfl⟩
theorem Same.trans {K K' : Nat → Prop} {a b c : Val} (h : Same K a b) (h' : Same K' b c) (hk : ∀ i, K i → K' i) : Same K a c :=
  ⟨fun i hi => (h'.blk i (hk i hi)).trans (h.blk i hi), fun i hi => (h'.room i (hk i hi)).trans (h.room i hi)⟩
mutual
theorem conc_same {K : Nat → Prop} {ρ ρ' : Val} (s : Same K ρ ρ') : ∀ v : Value, sc K v → conc ρ' v = conc ρ v
  | .pointer (some _), h => by simp [sc] at h; simp [conc, s.blk _ h]
  | .pointer none, _ => by simp [conc]
  | .slice (some _) _ _, h => by simp [sc] at h; simp [conc, s.blk _ h, s.room _ h]
  | .slice none _ _, _ => by simp [conc]
  | .map (some _), h => by simp [sc] at h; simp [conc, s.blk _ h]
  | .map none, _ => by simp [conc]
  | .func _ a b, h => by simp [sc] at h; simp [conc, concA_same s a h.1, concA_same s b h.2]
  | .iface _ v, h => by simp [sc] at h; simp [conc, conc_same s v h]
  | .agg cs, h => by simp [sc] at h; simp [conc, concA_same s cs h]
  | .tuple cs, h => by simp [sc] at h; simp [conc, concA_same s cs h]
  | .bool _, _ => by simp [conc]
  | .int _ _, _ => by simp [conc]
  | .float _ _, _ => by simp [conc]
  | .complex _ _ _, _ => by simp [conc]
  | .string _, _ => by simp [conc]
  | .chan _, _ => by simp [conc]
  | .nilFunc, _ => by simp [conc]
  | .nilIface, _ => by simp [conc]
theorem concA_same {K : Nat → Prop} {ρ ρ' : Val} (s : Same K ρ ρ') : ∀ a : Array Value, scA K a → concA ρ' a = concA ρ a
  | ⟨l⟩, h => by simp [scA] at h; simp [concA, concL_same s l h]
theorem concL_same {K : Nat → Prop} {ρ ρ' : Val} (s : Same K ρ ρ') : ∀ l : List Value, scL K l → concL ρ' l = concL ρ l
  | [], _ => by simp [concL]
  | v :: l, h => by simp [scL] at h; simp [concL, conc_same s v h.1, concL_same s l h.2]
end

/-- How many cells a value of a type has; 0 where there is no such type. -/
def cellsOf (P : Program) (t : TypeId) : Nat := match P.info? t with
  | some i => i.size
  | none => 0
/-- A block as it lies in a world. -/
def obj (ρ : Val) (b : Blk) (ex : List Value) : Obj := .cells ⟨concL ρ b.c.list ++ ex⟩ b.t (0, 0)

structure Reps (P : Program) (K : Nat → Prop) (ρ : Val) (H : Heap) (w : World) : Prop where
  blk : ∀ i b, H.get i = some b → ∃ ex : List Value, w.heap[ρ.blk i]? = some (obj ρ b ex) ∧ ex.length = ρ.room i * cellsOf P b.t
  inj : ∀ i j b b', H.get i = some b → H.get j = some b' → ρ.blk i = ρ.blk j → i = j
  known : ∀ i b, H.get i = some b → K i ∧ scL K b.c.list
  low : ∀ i, K i → i < H.n

/-- From one heap and world to later ones: numbers mean what they meant; no block but those of L, and new ones, is another one. -/
structure Fr (K : Nat → Prop) (ρ : Val) (H : Heap) (w : World) (ρ' : Val) (H' : Heap) (w' : World) (L : List Nat) : Prop where
  same : Same K ρ ρ'
  n : H.n ≤ H'.n
  os : w'.os = w.os
  tape : w'.tape = w.tape
  output : w'.output = w.output
  size : w.heap.size ≤ w'.heap.size
  off : ∀ b, b < w.heap.size → (∀ i, i ∈ L → H.get i ≠ none → ρ.blk i ≠ b) → w'.heap[b]? = w.heap[b]?
  fresh : ∀ i, ¬ K i → H'.get i ≠ none → w.heap.size ≤ ρ'.blk i ∨ ∃ j, j ∈ L ∧ H.get j ≠ none ∧ ρ.blk j = ρ'.blk i
  keeps : ∀ i, i < H.n → i ∉ L → H'.get i = H.get i
  born : ∀ i, K i → H'.get i ≠ none → H.get i ≠ none

section
variable {P : Program} {K K' K0 : Nat → Prop} {ρ ρ' ρ'' ρ0 : Val} {H H' H'' H0 : Heap} {w w' w'' w0 : World} {L L' : List Nat}

theorem Reps.lt (r : Reps P K ρ H w) {i : Nat} {b : Blk} (h : H.get i = some b) : ρ.blk i < w.heap.size := by
  obtain ⟨ex, h1, _⟩ := r.blk i b h
  exact (Array.getElem?_eq_some_iff.1 h1).1
theorem Fr.refl (r : Reps P K ρ H w) : Fr K ρ H w ρ H w [] :=
  ⟨Same.refl _ _, Nat.le_refl _, rfl, rfl, rfl, Nat.le_refl _, fun _ _ _ => rfl,
   fun i h h' => by
    cases hb : H.get i with
    | none => exact absurd hb h'
    | some b => exact absurd (r.known i b hb).1 h,
   fun _ _ _ => rfl, fun _ _ h => h⟩
theorem Fr.drawn (h : Fr K ρ H w ρ' H' w' L) (n : Nat) : Fr K ρ H w ρ' H' { w' with drawn := n } L :=
  ⟨h.same, h.n, h.os, h.tape, h.output, h.size, h.off, h.fresh, h.keeps, h.born⟩
theorem Reps.drawn (h : Reps P K ρ H w) (n : Nat) : Reps P K ρ H { w with drawn := n } := ⟨h.blk, h.inj, h.known, h.low⟩
theorem Reps.up (h : Reps P K ρ H w) (n : Nat) (hn : H.n ≤ n) : Reps P K ρ ⟨H.get, n⟩ w := ⟨h.blk, h.inj, h.known, fun i hi => Nat.lt_of_lt_of_le (h.low i hi) hn⟩
theorem Fr.up (h : Fr K ρ H w ρ' H' w' L) (n : Nat) (hn : H'.n ≤ n) : Fr K ρ H w ρ' ⟨H'.get, n⟩ w' L :=
  ⟨h.same, Nat.le_trans h.n hn, h.os, h.tape, h.output, h.size, h.off, h.fresh, h.keeps, h.born⟩
theorem Fr.more (h : Fr K ρ H w ρ' H' w' L) (L' : List Nat) (hl : ∀ i, i ∈ L → i ∈ L') : Fr K ρ H w ρ' H' w' L' :=
  ⟨h.same, h.n, h.os, h.tape, h.output, h.size, fun b hb hn => h.off b hb (fun i hi => hn i (hl i hi)), fun i hi hg => (h.fresh i hi hg).imp id (fun ⟨j, a, b⟩ => ⟨j, hl j a, b⟩), fun i hi hn => h.keeps i hi (fun x => hn (hl i x)), h.born⟩

/-- A number gets a block. -/
def Val.put (ρ : Val) (i b r : Nat) : Val := ⟨fun j => if j = i then b else ρ.blk j, fun j => if j = i then r else ρ.room j⟩
theorem Val.put_same {i b r : Nat} (h : ¬ K i) : Same K ρ (ρ.put i b r) :=
  ⟨fun j hj => by simp only [Val.put]; rw [if_neg (by rintro rfl; exact h hj)], fun j hj => by simp only [Val.put]; rw [if_neg (by rintro rfl; exact h hj)]⟩
def also (K : Nat → Prop) (i : Nat) : Nat → Prop := fun j => K j ∨ j = i

/-- A new block. -/
theorem Reps.alloc (r : Reps P K ρ H w) {i k : Nat} {b : Blk} {ex : List Value} (hi : i < H.n) (hK : ¬ K i) (hb : scL K b.c.list) (hex : ex.length = k * cellsOf P b.t) :
    Reps P (also K i) (ρ.put i w.heap.size k) (H.set i (some b)) { w with heap := w.heap.push (obj ρ b ex) } := by
  have hs : Same K ρ (ρ.put i w.heap.size k) := Val.put_same hK
  refine ⟨fun j c hj => ?_, fun j j' c c' hj hj' e => ?_, fun j c hj => ?_, fun j hj => ?_⟩
  · simp only [Heap.get_set] at hj
    by_cases e : i = j
    · subst e
      simp at hj
      subst hj
      refine ⟨ex, ?_, ?_⟩
      · have e2 : concL (ρ.put i w.heap.size k) b.c.list = concL ρ b.c.list := concL_same hs _ hb
        simp only [obj, e2]
        simp [Val.put]
      · simpa [Val.put] using hex
    · rw [if_neg e] at hj
      obtain ⟨ex', h1, h2⟩ := r.blk j c hj
      obtain ⟨k1, k2⟩ := r.known j c hj
      refine ⟨ex', ?_, by rw [hs.room j k1]; exact h2⟩
      rw [hs.blk j k1]
      have hlt := r.lt hj
      simp only [obj, concL_same hs _ k2]
      rw [Array.getElem?_push_lt hlt]
      rw [Array.getElem?_eq_getElem hlt] at h1
      exact h1
  · simp only [Heap.get_set] at hj hj'
    by_cases e1 : i = j <;> by_cases e2 : i = j'
    · omega
    · exfalso
      rw [if_neg e2] at hj'
      have := r.lt hj'
      rw [hs.blk j' (r.known _ _ hj').1] at e
      subst e1
      simp [Val.put] at e
      omega
    · exfalso
      rw [if_neg e1] at hj
      have := r.lt hj
      rw [hs.blk j (r.known _ _ hj).1] at e
      subst e2
      simp [Val.put] at e
      omega
    · rw [if_neg e1] at hj
      rw [if_neg e2] at hj'
      rw [hs.blk j (r.known _ _ hj).1, hs.blk j' (r.known _ _ hj').1] at e
      exact r.inj j j' c c' hj hj' e
  · simp only [Heap.get_set] at hj
    by_cases e : i = j
    · subst e
      simp at hj
      subst hj
      exact ⟨.inr rfl, scL_mono (fun _ h => .inl h) _ hb⟩
    · rw [if_neg e] at hj
      obtain ⟨k1, k2⟩ := r.known j c hj
      exact ⟨.inl k1, scL_mono (fun _ h => .inl h) _ k2⟩
  · rcases hj with h | rfl
    · exact r.low j h
    · exact hi
theorem Fr.alloc (h : Fr K0 ρ0 H0 w0 ρ H w L) {i k : Nat} {b : Blk} {o : Obj} (hk : ∀ j, K0 j → K j) (hK : ¬ K i) (hn : H0.n ≤ i) :
    Fr K0 ρ0 H0 w0 (ρ.put i w.heap.size k) (H.set i (some b)) { w with heap := w.heap.push o } L := by
  have hs : Same K ρ (ρ.put i w.heap.size k) := Val.put_same hK
  refine ⟨h.same.trans hs hk, h.n, h.os, h.tape, h.output, by have := h.size; simp; omega, fun c hc hn => ?_, fun j hj hg => ?_, fun j hj hl => ?_, fun j hj hg => ?_⟩
  · have hlt : c < w.heap.size := Nat.lt_of_lt_of_le hc h.size
    rw [← h.off c hc hn]
    simp [Array.getElem?_push_lt hlt, Array.getElem?_eq_getElem hlt]
  · simp only [Heap.get_set] at hg
    by_cases e : i = j
    · subst e
      left
      simp only [Val.put, if_true]
      exact h.size
    · rw [if_neg e] at hg
      have := h.fresh j hj hg
      simp only [Val.put]
      rw [if_neg (Ne.symm e)]
      exact this
  · simp only [Heap.get_set]
    rw [if_neg (by omega)]
    exact h.keeps j hj hl
  · simp only [Heap.get_set] at hg
    rw [if_neg (by rintro rfl; exact hK (hk _ hj))] at hg
    exact h.born j hj hg

/-- A block of the heap is another one. -/
theorem Reps.store (r : Reps P K ρ H w) {i : Nat} {b c : Blk} {ex : List Value} (hi : H.get i = some b) (hc : scL K c.c.list) (hex : ex.length = ρ.room i * cellsOf P c.t) :
    Reps P K ρ (H.set i (some c)) { w with heap := w.heap.setIfInBounds (ρ.blk i) (obj ρ c ex) } := by
  have hlt := r.lt hi
  refine ⟨fun j d hj => ?_, fun j j' d d' hj hj' e => ?_, fun j d hj => ?_, r.low⟩
  · simp only [Heap.get_set] at hj
    by_cases e : i = j
    · subst e
      simp at hj
      subst hj
      exact ⟨ex, by simp [hlt], hex⟩
    · rw [if_neg e] at hj
      obtain ⟨ex', h1, h2⟩ := r.blk j d hj
      refine ⟨ex', ?_, h2⟩
      have hne : ρ.blk i ≠ ρ.blk j := fun x => e (r.inj i j b d hi hj x)
      simp only
      rw [Array.getElem?_setIfInBounds_ne hne]
      exact h1
  · have aux : ∀ {j : Nat} {d : Blk}, (H.set i (some c)).get j = some d → ∃ d', H.get j = some d' := by
      intro j d hj
      simp only [Heap.get_set] at hj
      by_cases e : i = j
      · subst e; exact ⟨b, hi⟩
      · rw [if_neg e] at hj; exact ⟨d, hj⟩
    obtain ⟨x, hx⟩ := aux hj
    obtain ⟨y, hy⟩ := aux hj'
    exact r.inj j j' x y hx hy e
  · simp only [Heap.get_set] at hj
    by_cases e : i = j
    · subst e
      simp at hj
      subst hj
      exact ⟨(r.known i b hi).1, hc⟩
    · rw [if_neg e] at hj
      exact r.known j d hj
theorem Fr.store (h : Fr K0 ρ0 H0 w0 ρ H w L) (r : Reps P K ρ H w) {i : Nat} {b c : Blk} {o : Obj} (hk : ∀ j, K0 j → K j) (hi : H.get i = some b) :
    Fr K0 ρ0 H0 w0 ρ (H.set i (some c)) { w with heap := w.heap.setIfInBounds (ρ.blk i) o } (i :: L) := by
  refine ⟨h.same, h.n, h.os, h.tape, h.output, by simpa using h.size, fun d hd hn => ?_, fun j hj hg => ?_, fun j hj hl => ?_, fun j hj hg => ?_⟩
  · have hne : ρ.blk i ≠ d := by
      by_cases hK : K0 i
      · have hb := h.born i hK (by rw [hi]; simp)
        rw [h.same.blk i hK]
        exact hn i (by simp) hb
      · rcases h.fresh i hK (by rw [hi]; simp) with hf | ⟨j, hj, hg, e⟩
        · omega
        · rw [← e]; exact hn j (by simp [hj]) hg
    simp only
    rw [Array.getElem?_setIfInBounds_ne hne]
    exact h.off d hd (fun j hj => hn j (by simp [hj]))
  · have hf : w0.heap.size ≤ ρ.blk j ∨ ∃ k, k ∈ L ∧ H0.get k ≠ none ∧ ρ0.blk k = ρ.blk j := by
      simp only [Heap.get_set] at hg
      by_cases e : i = j
      · subst e; exact h.fresh i hj (by rw [hi]; simp)
      · rw [if_neg e] at hg; exact h.fresh j hj hg
    exact hf.imp id (fun ⟨k, a, b⟩ => ⟨k, by simp [a], b⟩)
  · simp only [List.mem_cons, not_or] at hl
    simp only [Heap.get_set]
    rw [if_neg (Ne.symm hl.1)]
    exact h.keeps j hj hl.2
  · simp only [Heap.get_set] at hg
    by_cases e : i = j
    · subst e; exact h.born i hj (by rw [hi]; simp)
    · rw [if_neg e] at hg; exact h.born j hj hg
/-- A block is given up. -/
theorem Reps.kill (r : Reps P K ρ H w) (i : Nat) : Reps P K ρ (H.set i none) w := by
  have aux : ∀ {j : Nat} {d : Blk}, (H.set i none).get j = some d → H.get j = some d := by
    intro j d hj
    simp only [Heap.get_set] at hj
    by_cases e : i = j
    · subst e; simp at hj
    · rw [if_neg e] at hj; exact hj
  exact ⟨fun j d hj => r.blk j d (aux hj), fun j j' d d' hj hj' e => r.inj j j' d d' (aux hj) (aux hj') e, fun j d hj => r.known j d (aux hj), r.low⟩
theorem Fr.kill (h : Fr K0 ρ0 H0 w0 ρ H w L) (i : Nat) : Fr K0 ρ0 H0 w0 ρ (H.set i none) w (i :: L) := by
  have aux : ∀ {j : Nat}, (H.set i none).get j ≠ none → H.get j ≠ none := by
    intro j hj
    simp only [Heap.get_set] at hj
    by_cases e : i = j
    · subst e; simp at hj
    · rw [if_neg e] at hj; exact hj
  refine ⟨h.same, h.n, h.os, h.tape, h.output, h.size, fun d hd hn => h.off d hd (fun j hj => hn j (by simp [hj])), fun j hj hg => (h.fresh j hj (aux hg)).imp id (fun ⟨k, a, b⟩ => ⟨k, by simp [a], b⟩), fun j hj hl => ?_, fun j hj hg => h.born j hj (aux hg)⟩
  simp only [List.mem_cons, not_or] at hl
  simp only [Heap.get_set]
  rw [if_neg (Ne.symm hl.1)]
  exact h.keeps j hj hl.2
end
end Go.Proofs.Ytbgdhahdihbpaaa.Ev
end

section
namespace Go.Proofs.Ytbgdhahdihbpaaa.Ev
set_option linter.unusedVariables false
set_option linter.unusedSimpArgs false

/-- What an operation does: a value alone; a new block; another block in one's place; a new block in the place of an elder one (a slice that grows). -/
inductive Eff where
  | val (v : Value)
  | new (b : Blk) (v : Value)
  | upd (i : Nat) (b : Blk) (v : Value)
  | grow (i : Option Nat) (b : Blk) (v : Value)

def opnd (T : Nat → Option Value) : Operand → Option Value
  | .tmp t => T t
  | .const v => cond (plain v) (some v) none
  | .func f => some (.func (.func f) #[] #[])
  | .global _ => none

def at_ (id off : Nat) : Value := .pointer (some ⟨id, off, none⟩)

/-- Operations on two whole numbers. -/
def int2 (op : BinOp) (k : IntKind) (x y : Int) : Tree Value :=
  match op with
  | .add => .leaf (.int k (k.wrap (x + y)))
  | .sub => .leaf (.int k (k.wrap (x - y)))
  | .mul => .leaf (.int k (k.wrap (x * y)))
  | .quo => .br (decide (y = 0)) .bad (.leaf (.int k (k.wrap (x.tdiv y))))
  | .rem => .br (decide (y = 0)) .bad (.leaf (.int k (x.tmod y)))
  | .and => .leaf (.int k (k.wrap (BitVec.ofInt k.bits x &&& BitVec.ofInt k.bits y).toNat))
  | .or => .leaf (.int k (k.wrap (BitVec.ofInt k.bits x ||| BitVec.ofInt k.bits y).toNat))
  | .xor => .leaf (.int k (k.wrap (BitVec.ofInt k.bits x ^^^ BitVec.ofInt k.bits y).toNat))
  | .andNot => .leaf (.int k (k.wrap (BitVec.ofInt k.bits x &&& ~~~BitVec.ofInt k.bits y).toNat))
  | .shl => .br (decide (y < 0)) .bad (.leaf (.int k (k.wrap (x * 2 ^ min y.toNat k.bits))))
  | .shr => .br (decide (y < 0)) .bad (.leaf (.int k (x.fdiv (2 ^ min y.toNat k.bits))))
  | .eql => .leaf (.bool (x == y))
  | .neq => .leaf (.bool (x != y))
  | .lss => .leaf (.bool (decide (x < y)))
  | .leq => .leaf (.bool (decide (x ≤ y)))
  | .gtr => .leaf (.bool (decide (x > y)))
  | .geq => .leaf (.bool (decide (x ≥ y)))

theorem int2_ok {op : BinOp} {k k' : IntKind} {x y : Int} {v : Value} (P : Program) (t : TypeId) (w : World) (hk : k = k' ∨ op = .shl ∨ op = .shr) (h : (int2 op k x y).get = some v) :
    (Go.binOp op t (.int k x) (.int k' y)).run P w = .ok v w ∧ ∀ ρ, conc ρ v = v := by
  cases op
  case quo | rem =>
    simp [int2] at h
    obtain ⟨h0, h⟩ := h
    subst h
    simp at hk
    subst hk
    exact ⟨by simp [Go.binOp, Op.intDiv, h0], by simp [conc]⟩
  case shl | shr =>
    simp [int2] at h
    obtain ⟨h0, h⟩ := h
    subst h
    exact ⟨by simp [Go.binOp, Op.shift, Int.not_lt.mpr h0], by simp [conc]⟩
  all_goals
    simp only [int2, Tree.get_leaf, Option.some.injEq] at h
    subst h
    simp at hk
    subst hk
    exact ⟨by simp [Go.binOp, Op.intArith, Op.intBits, Op.intCmp], by simp [conc]⟩

def nth {α : Type} : List α → Nat → Option α
  | [], _ => none
  | x :: _, 0 => some x
  | _ :: l, n + 1 => nth l n
theorem nth_eq {α : Type} (l : List α) (n : Nat) : nth l n = l[n]? := by
  induction l generalizing n with
  | nil => simp [nth]
  | cons x l ih => cases n <;> simp [nth, ih]
/-- So many, from a place on. -/
def takeAt {α : Type} : List α → Nat → Nat → Option (List α)
  | l, 0, 0 => some []
  | [], 0, _ + 1 => none
  | x :: l, 0, n + 1 => match takeAt l 0 n with
    | some r => some (x :: r)
    | none => none
  | [], _ + 1, _ => none
  | _ :: l, k + 1, n => takeAt l k n
theorem takeAt_eq {α : Type} : ∀ (l : List α) (k n : Nat) (r : List α), takeAt l k n = some r → r = (l.drop k).take n ∧ k + n ≤ l.length
  | l, 0, 0, r, h => by simp [takeAt] at h; subst h; simp
  | [], 0, n + 1, r, h => by simp [takeAt] at h
  | x :: l, 0, n + 1, r, h => by
    simp only [takeAt] at h
    cases hr : takeAt l 0 n with
    | none => simp [hr] at h
    | some q =>
      simp [hr] at h
      subst h
      obtain ⟨h1, h2⟩ := takeAt_eq l 0 n q hr
      simp at h1 h2
      simp [h1]
      omega
  | [], k + 1, n, r, h => by simp [takeAt] at h
  | x :: l, k + 1, n, r, h => by
    simp only [takeAt] at h
    obtain ⟨h1, h2⟩ := takeAt_eq l k n r h
    simp [h1]
    omega
/-- Values laid from a place on. -/
def putAt {α : Type} : List α → Nat → List α → Option (List α)
  | l, 0, [] => some l
  | [], 0, _ :: _ => none
  | _ :: l, 0, y :: r => match putAt l 0 r with
    | some q => some (y :: q)
    | none => none
  | [], _ + 1, _ => none
  | x :: l, k + 1, r => match putAt l k r with
    | some q => some (x :: q)
    | none => none
theorem putAt_eq {α : Type} : ∀ (l : List α) (k : Nat) (r q : List α), putAt l k r = some q → q = l.take k ++ r ++ l.drop (k + r.length) ∧ k + r.length ≤ l.length
  | l, 0, [], q, h => by simp [putAt] at h; subst h; simp
  | [], 0, y :: r, q, h => by simp [putAt] at h
  | x :: l, 0, y :: r, q, h => by
    simp only [putAt] at h
    cases hr : putAt l 0 r with
    | none => simp [hr] at h
    | some p =>
      simp [hr] at h
      subst h
      obtain ⟨h1, h2⟩ := putAt_eq l 0 r p hr
      simp at h1 h2
      simp [h1]
      exact h2
  | [], k + 1, r, q, h => by simp [putAt] at h
  | x :: l, k + 1, r, q, h => by
    simp only [putAt] at h
    cases hr : putAt l k r with
    | none => simp [hr] at h
    | some p =>
      simp [hr] at h
      subst h
      obtain ⟨h1, h2⟩ := putAt_eq l k r p hr
      simp [h1, Nat.add_right_comm]
      omega

def aggD : TypeDesc → Bool
  | .struct _ | .array _ _ => true
  | _ => false
/-- Whether two values of a type are the same. -/
def sameF (rec : TypeId → Value → Value → Option Bool) (P : Program) (xs ys : List Value) : List Field → Option Bool
  | [] => some true
  | f :: fs => cond (f.name == "_") (sameF rec P xs ys fs)
    (match P.underlying f.type with
      | some u => cond (aggD u)
        (match P.info? f.type with
        | some i => match takeAt xs f.offset i.size, takeAt ys f.offset i.size with
          | some a, some b => match rec f.type (.agg ⟨a⟩) (.agg ⟨b⟩), sameF rec P xs ys fs with
            | some c, some d => some (c && d)
            | _, _ => none
          | _, _ => none
        | none => none)
        (match nth xs f.offset, nth ys f.offset with
        | some a, some b => match rec f.type a b, sameF rec P xs ys fs with
          | some c, some d => some (c && d)
          | _, _ => none
        | _, _ => none)
      | none => none)
def same1 (P : Program) : Nat → TypeId → Value → Value → Option Bool
  | 0, _, _, _ => none
  | d + 1, t, x, y => match P.underlying t, x, y with
    | some (.int _), .int k a, .int k' b => cond (decide (k = k')) (some (a == b)) none
    | some .bool, .bool a, .bool b => some (a == b)
    | some .string, .string a, .string b => some (a.toList == b.toList)
    | some (.struct fs), .agg xs, .agg ys => cond (P.stoodInHeld t) none (sameF (same1 P d) P xs.toList ys.toList fs.toList)
    | _, _, _ => none

section
variable {P : Program}
theorem run_part_agg {t : TypeId} {cs : Array Value} {off : Nat} {i : TypeInfo} {d : TypeDesc} (hu : P.underlying t = some d) (ha : aggD d = true) (hi : P.info? t = some i) (w : World) :
    (part t cs off).run P w = .ok (.agg (cs.extract off (off + i.size))) w := by
  have hagg : (isAgg t).run P w = .ok true w := by
    unfold isAgg
    rw [Sem.run_bind, run_underlying hu w]
    cases d <;> simp_all [aggD]
  simp [part, hagg, sizeOf, typeInfo, hi]
theorem run_part_one {t : TypeId} {cs : Array Value} {off : Nat} {v : Value} {d : TypeDesc} (hu : P.underlying t = some d) (ha : aggD d = false) (hv : cs[off]? = some v) (w : World) :
    (part t cs off).run P w = .ok v w := by
  have hagg : (isAgg t).run P w = .ok false w := by
    unfold isAgg
    rw [Sem.run_bind, run_underlying hu w]
    cases d <;> simp_all [aggD]
  simp [part, hagg, hv]
theorem takeAt_extract {xs : Array Value} {off n : Nat} {r : List Value} (h : takeAt xs.toList off n = some r) : xs.extract off (off + n) = ⟨r⟩ := by
  obtain ⟨h1, h2⟩ := takeAt_eq _ _ _ _ h
  subst h1
  apply Array.ext'
  simp [Array.toList_extract, List.extract]
theorem sameF_ok {d : Nat} (ih : ∀ t x y b w, same1 P d t x y = some b → (Op.equalIn d t x y).run P w = .ok b w) {xs ys : Array Value} :
    ∀ (fs : List Field) (b : Bool) (w : World), sameF (same1 P d) P xs.toList ys.toList fs = some b → (Op.eqFields d xs ys fs).run P w = .ok b w
  | [], b, w, h => by simp [sameF] at h; subst h; simp [Op.eqFields]
  | f :: fs, b, w, h => by
    unfold sameF at h
    cases hn : (f.name == "_") with
    | true =>
      simp only [hn, cond] at h
      have : ¬ (f.name ≠ "_") := by simpa using hn
      simp only [Op.eqFields, if_neg this]
      exact sameF_ok ih fs b w h
    | false =>
      simp only [hn, cond] at h
      have hne : f.name ≠ "_" := by simpa using hn
      simp only [Op.eqFields, if_pos hne]
      cases hu : P.underlying f.type with
      | none => simp [hu] at h
      | some u =>
        simp only [hu] at h
        cases ha : aggD u with
        | true =>
          simp only [ha, cond] at h
          cases hi : P.info? f.type with
          | none => simp [hi] at h
          | some i =>
            simp only [hi] at h
            cases ht : takeAt xs.toList f.offset i.size with
            | none => simp [ht] at h
            | some a =>
              cases ht2 : takeAt ys.toList f.offset i.size with
              | none => simp [ht, ht2] at h
              | some c =>
                simp only [ht, ht2] at h
                cases hs : same1 P d f.type (.agg ⟨a⟩) (.agg ⟨c⟩) with
                | none => simp [hs] at h
                | some r =>
                  cases hr : sameF (same1 P d) P xs.toList ys.toList fs with
                  | none => simp [hs, hr] at h
                  | some q =>
                    simp only [hs, hr, Option.some.injEq] at h
                    subst h
                    simp only [Sem.run_bind, run_part_agg hu ha hi, Result.andThen_ok, takeAt_extract ht, takeAt_extract ht2, ih _ _ _ _ w hs, Sem.run_ite, Sem.run_pure, sameF_ok ih fs q w hr]
                    cases r <;> simp
        | false =>
          simp only [ha, cond] at h
          cases ht : nth xs.toList f.offset with
          | none => simp [ht] at h
          | some a =>
            cases ht2 : nth ys.toList f.offset with
            | none => simp [ht, ht2] at h
            | some c =>
              simp only [ht, ht2] at h
              cases hs : same1 P d f.type a c with
              | none => simp [hs] at h
              | some r =>
                cases hr : sameF (same1 P d) P xs.toList ys.toList fs with
                | none => simp [hs, hr] at h
                | some q =>
                  simp only [hs, hr, Option.some.injEq] at h
                  subst h
                  rw [nth_eq] at ht ht2
                  have h1 : xs[f.offset]? = some a := by simpa using ht
                  have h2 : ys[f.offset]? = some c := by simpa using ht2
                  simp only [Sem.run_bind, run_part_one hu ha h1, run_part_one hu ha h2, Result.andThen_ok, ih _ _ _ _ w hs, Sem.run_ite, Sem.run_pure, sameF_ok ih fs q w hr]
                  cases r <;> simp
theorem same1_ok : ∀ (d : Nat) (t : TypeId) (x y : Value) (b : Bool) (w : World), same1 P d t x y = some b → (Op.equalIn d t x y).run P w = .ok b w
  | 0, t, x, y, b, w, h => by simp [same1] at h
  | d + 1, t, x, y, b, w, h => by
    unfold same1 at h
    split at h
    · rename_i k0 k a k' c hu
      by_cases hk : k = k'
      · subst hk; simp at h; subst h; exact run_equalIn_int w d t k k0 a c hu
      · simp [hk] at h
    · rename_i a c hu
      simp at h; subst h; exact run_equalIn_bool' w d t a c hu
    · rename_i a c hu
      simp at h; subst h; exact run_equalIn_string w d t a c hu
    · rename_i fs xs ys hu
      cases hp : P.stoodInHeld t with
      | true => simp [hp] at h
      | false =>
        simp only [hp, cond] at h
        have hf : P.fieldsOf t = fs := by simp [Program.fieldsOf, hu]
        rw [run_equalIn_agg w d t xs ys (by rw [hf]; exact hu) hp, hf]
        exact sameF_ok (same1_ok d) fs.toList b w h
    · simp at h
end
end Go.Proofs.Ytbgdhahdihbpaaa.Ev
end

section
namespace Go.Proofs.Ytbgdhahdihbpaaa.Ev
set_option linter.unusedVariables false
set_option linter.unusedSimpArgs false

def mapO {α β : Type} (f : α → Option β) : List α → Option (List β)
  | [] => some []
  | x :: l => match f x with
    | some y => match mapO f l with
      | some r => some (y :: r)
      | none => none
    | none => none

def partO (e : Operand → Option Value) (p : Nat × Operand) : Option (Nat × Value) := match e p.2 with
  | some v => some (p.1, v)
  | none => none

def isAggT (P : Program) (t : TypeId) : Option Bool := match P.underlying t with
  | some u => some (aggD u)
  | none => none

def doPick (e : Operand → Option Value) (c a b : Operand) : Tree Eff :=
  ofOpt (e c) fun vc => match vc with
    | .bool t => match e a, e b with
      | some (.bool x), some (.bool y) => .leaf (.val (.bool (cond t x y)))
      | x, y => .br t (ofOpt x fun v => .leaf (.val v)) (ofOpt y fun v => .leaf (.val v))
    | _ => .bad

def doAlloc (P : Program) (t : TypeId) (id : Nat) : Tree Eff :=
  match P.info? t with
  | some i => match i.zero with
    | some z => cond (plain z) (.leaf (.new ⟨t, .vals z.cells.toList⟩ (at_ id 0))) .bad
    | none => .bad
  | none => .bad

def doBuild (P : Program) (e : Operand → Option Value) (t : TypeId) (parts : Array (Nat × Operand)) : Tree Eff :=
  ofOpt (mapO (partO e) parts.toList) fun ps =>
    match P.info? t with
    | some i => match i.zero with
      | some z => cond (plain z) (ofOpt (P.built t ps) fun cs => .leaf (.val (.agg cs))) .bad
      | none => .bad
    | none => .bad

def doBuildSlice (P : Program) (e : Operand → Option Value) (t : TypeId) (len : Nat) (parts : Array (Nat × Operand)) (id : Nat) : Tree Eff :=
  ofOpt (mapO (partO e) parts.toList) fun ps =>
    match P.underlying t with
    | some (.slice el) => match P.info? el with
      | some i => match i.zero with
        | some z => cond (plain z && Nat.ble (len * i.size) 100000)
          (match Instr.fill (fun j => some (j * i.size, i.size)) ((Array.range (len * i.size)).map ((cond (len * i.size == 0) #[] z.cells)[· % (cond (len * i.size == 0) #[] z.cells).size]!)) ps with
            | some cs => .leaf (.new ⟨el, .vals cs.toList⟩ (.slice (some ⟨id, 0, none⟩) len len))
            | none => .bad) .bad
        | none => .bad
      | none => .bad
    | _ => .bad

def doLoad (P : Program) (e : Operand → Option Value) (g : Nat → Option Blk) (t : TypeId) (a : Operand) : Tree Eff :=
  ofOpt (e a) fun va => match va with
    | .pointer (some ⟨i, off, none⟩) => ofOpt (g i) fun b => ofOpt (isAggT P t) fun ag =>
      cond ag
        (match P.info? t, b.c with
          | some ti, .vals l => ofOpt (takeAt l off ti.size) fun r => .leaf (.val (.agg ⟨r⟩))
          | _, _ => .bad)
        (match b.c with
          | .vals l => ofOpt (nth l off) fun v => .leaf (.val v)
          | .ints k ws => .br (decide (off < ws.length)) (.leaf (.val (.int k (ws.getD off 0)))) .bad)
    | _ => .bad

def oneCells : List Value → Bool
  | [] => true
  | v :: l => v.oneCell' && oneCells l

def doStore (P : Program) (e : Operand → Option Value) (g : Nat → Option Blk) (t : TypeId) (a x : Operand) : Tree Eff :=
  ofOpt (e a) fun va => ofOpt (e x) fun vx => match va with
    | .pointer (some ⟨i, off, none⟩) => ofOpt (g i) fun b => match P.info? t with
      | some ti => match b.c with
        | .vals l => cond (vx.cells.size == ti.size && oneCells vx.cells.toList) (ofOpt (putAt l off vx.cells.toList) fun r => .leaf (.upd i ⟨b.t, .vals r⟩ undef)) .bad
        | .ints k ws => match vx with
          | .int k' n => cond (ti.size == 1 && decide (k' = k)) (.br (decide (off < ws.length)) (.leaf (.upd i ⟨b.t, .ints k (ws.set off n)⟩ undef)) .bad) .bad
          | _ => .bad
      | none => .bad
    | _ => .bad

def doNil (e : Operand → Option Value) (x : Operand) : Tree Eff :=
  ofOpt (e x) fun v => match v with
    | .pointer (some a) => .leaf (.val (.pointer (some a)))
    | .func (.func f) a b => .leaf (.val (.func (.func f) a b))
    | _ => .bad

/-- Whether two values are the same, where that is told by their form. -/
def eqNil : TypeDesc → Value → Value → Option Bool
  | .func _ _ _, .func _ _ _, .nilFunc => some false
  | .func _ _ _, .nilFunc, .func _ _ _ => some false
  | .func _ _ _, .nilFunc, .nilFunc => some true
  | .pointer _, .pointer (some _), .pointer none => some false
  | .pointer _, .pointer none, .pointer (some _) => some false
  | .pointer _, .pointer none, .pointer none => some true
  | .slice _, .slice (some _) _ _, .slice none _ _ => some false
  | .slice _, .slice none _ _, .slice (some _) _ _ => some false
  | .slice _, .slice none _ _, .slice none _ _ => some true
  | .interface _, .iface _ _, .nilIface => some false
  | .interface _, .nilIface, .iface _ _ => some false
  | .bool, .bool a, .bool b => some (a == b)
  | _, _, _ => none
def isShift : BinOp → Bool
  | .shl | .shr => true
  | _ => false
def doBin (P : Program) (e : Operand → Option Value) (op : BinOp) (t : TypeId) (x y : Operand) : Tree Eff :=
  ofOpt (e x) fun a => ofOpt (e y) fun b => match a, b with
    | .int k n, .int k' m => cond (decide (k = k') || isShift op) ((int2 op k n m).bind fun v => .leaf (.val v)) .bad
    | .agg xs, .agg ys => cond (plainA xs && plainA ys && !P.eqGuardType P.depth t) (ofOpt (same1 P 10000 t (.agg xs) (.agg ys)) fun r => match op with
      | .eql => .leaf (.val (.bool r))
      | .neq => .leaf (.val (.bool (!r)))
      | _ => .bad) .bad
    | .string n, .string m => match op with
      | .eql => .leaf (.val (.bool (n.toList == m.toList)))
      | .neq => .leaf (.val (.bool (!(n.toList == m.toList))))
      | _ => .bad
    | a, b => match P.underlying t with
      | some u => ofOpt (eqNil u a b) fun r => match op with
        | .eql => .leaf (.val (.bool r))
        | .neq => .leaf (.val (.bool (!r)))
        | _ => .bad
      | none => .bad

def doUn (e : Operand → Option Value) (op : UnOp) (x : Operand) : Tree Eff :=
  ofOpt (e x) fun a => match op, a with
    | .not, .bool b => .leaf (.val (.bool !b))
    | .neg, .int k n => .leaf (.val (.int k (k.wrap (0 - n))))
    | _, _ => .bad

def doConv (P : Program) (e : Operand → Option Value) (s d : TypeId) (x : Operand) : Tree Eff :=
  ofOpt (e x) fun a => match P.underlying s, P.underlying d, a with
    | some (.int _), some (.int k), .int _ n => .leaf (.val (.int k (k.wrap n)))
    | _, _, _ => .bad

def doFieldAddr (P : Program) (e : Operand → Option Value) (s : TypeId) (x : Operand) (f : Nat) : Tree Eff :=
  ofOpt (e x) fun a => match a, P.underlying s with
    | .pointer (some ⟨i, off, none⟩), some (.struct fs) => match nth fs.toList f with
      | some fd => match P.info? fd.type with
        | some ti => cond (ti.size == 0) .bad (.leaf (.val (at_ i (off + fd.offset))))
        | none => .bad
      | none => .bad
    | _, _ => .bad

def doIndexAddr (P : Program) (e : Operand → Option Value) (t : TypeId) (x ix : Operand) : Tree Eff :=
  ofOpt (e x) fun a => ofOpt (e ix) fun j => match P.underlying t, a, j with
    | some (.slice el), .slice (some ⟨i, off, none⟩) len _, .int _ n => match P.info? el with
      | some ti => .br (decide (0 ≤ n ∧ n < len)) (.leaf (.val (at_ i (off + n.toNat * ti.size)))) .bad
      | none => .bad
    | some (.array len el), .pointer (some ⟨i, off, none⟩), .int _ n => match P.info? el with
      | some ti => .br (decide (0 ≤ n ∧ n < len)) (.leaf (.val (at_ i (off + n.toNat * ti.size)))) .bad
      | none => .bad
    | _, _, _ => .bad

def doField (P : Program) (e : Operand → Option Value) (t : TypeId) (x : Operand) (f : Nat) : Tree Eff :=
  ofOpt (e x) fun a => match P.underlying t, a with
    | some (.struct fs), .agg cs => match nth fs.toList f with
      | some fd => ofOpt (isAggT P fd.type) fun ag => cond ag
        (match P.info? fd.type with
          | some ti => ofOpt (takeAt cs.toList fd.offset ti.size) fun r => .leaf (.val (.agg ⟨r⟩))
          | none => .bad)
        (ofOpt (nth cs.toList fd.offset) fun v => .leaf (.val v))
      | none => .bad
    | _, _ => .bad

def doExtract (e : Operand → Option Value) (x : Operand) (i : Nat) : Tree Eff :=
  ofOpt (e x) fun a => match a with
    | .tuple vs => ofOpt (nth vs.toList i) fun v => .leaf (.val v)
    | _ => .bad

def zeroInt (k : IntKind) : Option Value → Bool
  | some (.int k' z) => decide (k' = k) && z == 0
  | _ => false
def doMakeSlice (P : Program) (e : Operand → Option Value) (t : TypeId) (l c : Operand) (id : Nat) : Tree Eff :=
  ofOpt (e l) fun vl => ofOpt (e c) fun vc => match P.underlying t, vl, vc with
    | some (.slice el), .int _ n, .int _ m => match P.underlying el, P.info? el with
      | some (.int k), some ti => cond (ti.size == 1 && zeroInt k ti.zero)
        (.br (decide (0 ≤ n ∧ n ≤ m ∧ ti.bytes * m ≤ 2 ^ 48 ∧ m < 2 ^ 62)) (.leaf (.new ⟨el, .ints k (List.replicate m.toNat 0)⟩ (.slice (some ⟨id, 0, none⟩) n.toNat m.toNat))) .bad) .bad
      | _, _ => .bad
    | _, _, _ => .bad

def toInts (k : IntKind) : List Value → Option (List Int)
  | [] => some []
  | .int k' n :: l => cond (decide (k' = k)) (match toInts k l with | some r => some (n :: r) | none => none) none
  | _ => none
/-- So many cells, from a place on. -/
def cutC (c : Cells) (off n : Nat) : Tree Cells := match c with
  | .vals l => ofOpt (takeAt l off n) fun r => .leaf (.vals r)
  | .ints k ws => .br (decide (off + n ≤ ws.length)) (.leaf (.ints k ((ws.drop off).take n))) .bad
/-- Cells with others laid into them. -/
def layC (c : Cells) (off : Nat) (d : Cells) : Tree Cells := match c, d with
  | .vals l, .vals r => cond (oneCells r) (ofOpt (putAt l off r) fun q => .leaf (.vals q)) .bad
  | .ints k ws, .ints k' r => cond (decide (k' = k)) (.br (decide (off + r.length ≤ ws.length)) (.leaf (.ints k (ws.take off ++ r ++ ws.drop (off + r.length)))) .bad) .bad
  | .ints k ws, .vals r => ofOpt (toInts k r) fun r => .br (decide (off + r.length ≤ ws.length)) (.leaf (.ints k (ws.take off ++ r ++ ws.drop (off + r.length)))) .bad
  | .vals _, .ints _ _ => .bad
/-- Cells, and others behind them. -/
def addC (c d : Cells) : Tree Cells := match c, d with
  | .vals l, .vals r => cond (oneCells r) (.leaf (.vals (l ++ r))) .bad
  | .ints k ws, .ints k' r => cond (decide (k' = k)) (.leaf (.ints k (ws ++ r))) .bad
  | .ints k ws, .vals r => ofOpt (toInts k r) fun r => .leaf (.ints k (ws ++ r))
  | .vals _, .ints _ _ => .bad
def lenC : Cells → Nat
  | .vals l => l.length
  | .ints _ ws => ws.length
def noCells (P : Program) (el : TypeId) : Cells := match P.underlying el with
  | some (.int k) => .ints k []
  | _ => .vals []

def doCopy (P : Program) (g : Nat → Option Blk) (t : TypeId) (d s : Value) : Tree Eff :=
  match P.underlying t, d, s with
  | some (.slice el), .slice (some ⟨i, off, none⟩) dl _, .slice (some ⟨j, off2, none⟩) sl _ => match P.info? el with
    | some ti => ofOpt (g i) fun b => ofOpt (g j) fun c => (cutC c.c off2 (Nat.min sl dl * ti.size)).bind fun x => (layC b.c off x).bind fun y => .leaf (.upd i ⟨b.t, y⟩ (.int .i64 (Nat.min sl dl)))
    | none => .bad
  | _, _, _ => .bad

/-- The cells of a slice that is appended. -/
def srcC (P : Program) (g : Nat → Option Blk) (size : Nat) : Value → Tree Cells
  | .slice (some ⟨j, off, none⟩) m _ => ofOpt (g j) fun b => cutC b.c off (m * size)
  | _ => .bad
/-- Something is appended to a slice. -/
def growC (P : Program) (g : Nat → Option Blk) (id : Nat) (el : TypeId) (ti : TypeInfo) (s : Value) (d : Cells) (m : Nat) : Tree Eff := match s with
  | .slice none 0 0 => .br (decide (m * ti.bytes ≤ 140737488355328 ∧ m ≤ 4611686018427387904)) ((addC (noCells P el) d).bind fun y => .leaf (.grow none ⟨el, y⟩ (.slice (some ⟨id, 0, none⟩) m m))) .bad
  | .slice (some ⟨i, 0, none⟩) n c => ofOpt (g i) fun b => cond (b.t == el) (.br (decide (c = n ∧ lenC b.c = n * ti.size ∧ (n + m) * ti.bytes ≤ 140737488355328 ∧ n + m ≤ 4611686018427387904))
      ((addC b.c d).bind fun y => .leaf (.grow (some i) ⟨el, y⟩ (.slice (some ⟨id, 0, none⟩) (n + m) (n + m)))) .bad) .bad
  | _ => .bad
/-- Nothing is appended. -/
def stayC : Value → Tree Eff
  | .slice none n c => .br (decide (n ≤ c)) (.leaf (.val (.slice none n c))) .bad
  | .slice (some ⟨i, off, none⟩) n c => .br (decide (n ≤ c)) (.leaf (.val (.slice (some ⟨i, off, none⟩) n c))) .bad
  | _ => .bad
def doAppend (P : Program) (g : Nat → Option Blk) (id : Nat) (t : TypeId) (s x : Value) : Tree Eff :=
  match P.underlying t, x with
  | some (.slice el), .slice ax m cx => match P.info? el with
    | some ti => match ti.zero with
      | some z => cond (z.cells.size == ti.size) (.br (decide (m = 0)) (stayC s) ((srcC P g ti.size (.slice ax m cx)).bind fun d => growC P g id el ti s d m)) .bad
      | none => .bad
    | none => .bad
  | _, _ => .bad

def doBuiltin (P : Program) (e : Operand → Option Value) (g : Nat → Option Blk) (id : Nat) (b : Builtin) (ts : Array TypeId) (args : Array Operand) : Tree Eff :=
  ofOpt (mapO e args.toList) fun vs => match b, vs, ts.toList with
    | .len, [.slice _ n _], t :: _ => match P.underlying t with
      | some (.slice _) => .leaf (.val (.int .i64 n))
      | _ => .bad
    | .len, [.string s], t :: _ => match P.underlying t with
      | some .string => .leaf (.val (.int .i64 s.size))
      | _ => .bad
    | .min, [.int k x, .int k' y], _ => .leaf (.val (.int k (if y < x then y else x)))
    | .max, [.int k x, .int k' y], _ => .leaf (.val (.int k (if y > x then y else x)))
    | .copy, [d, s], t :: _ => doCopy P g t d s
    | .append, [s, x], [t, t'] => cond (t == t') (doAppend P g id t s x) .bad
    | _, _, _ => .bad

def dop (P : Program) (op : Op) (e : Operand → Option Value) (g : Nat → Option Blk) (id : Nat) : Tree Eff :=
  match op with
  | .move x | .assign x => ofOpt (e x) fun v => .leaf (.val v)
  | .pick c a b => doPick e c a b
  | .alloc t => doAlloc P t id
  | .box t x => ofOpt (e x) fun v => .leaf (.new ⟨t, .vals v.cells.toList⟩ (at_ id 0))
  | .build t parts => doBuild P e t parts
  | .buildSlice t n parts => doBuildSlice P e t n parts id
  | .load t a => doLoad P e g t a
  | .store t a x => doStore P e g t a x
  | .nilCheck x => doNil e x
  | .binOp op t x y _ => doBin P e op t x y
  | .unOp op _ x => doUn e op x
  | .convert s d x => doConv P e s d x
  | .makeFunc (.func f) a b => ofOpt (mapO e a.toList) fun va => ofOpt (mapO e b.toList) fun vb => .leaf (.val (.func (.func f) ⟨va⟩ ⟨vb⟩))
  | .fieldAddr s x f => doFieldAddr P e s x f
  | .indexAddr t x i => doIndexAddr P e t x i
  | .field t x f => doField P e t x f
  | .extract x i => doExtract e x i
  | .makeSlice t l c => doMakeSlice P e t l c id
  | .call { callee := .builtin b, args, argTypes } => doBuiltin P e g id b argTypes args
  | _ => .bad

/-- Which blocks an operation looks at. -/
def needs (op : Op) (e : Operand → Option Value) : List Nat :=
  match op with
  | .load _ a | .store _ a _ => match e a with
    | some (.pointer (some a)) => [a.block]
    | _ => []
  | .call { callee := .builtin _, args, .. } => args.toList.filterMap fun x => match e x with
    | some (.slice (some a) _ _) => some a.block
    | _ => none
  | _ => []
/-- Which blocks are other ones behind it. -/
def effIds : Eff → List Nat
  | .upd j _ _ => [j]
  | .grow (some j) _ _ => [j]
  | _ => []
def effWr : Eff → Bool
  | .upd _ _ _ => true
  | .grow (some _) _ _ => true
  | _ => false
end Go.Proofs.Ytbgdhahdihbpaaa.Ev
end

section
namespace Go.Proofs.Ytbgdhahdihbpaaa.Ev
set_option linter.unusedVariables false
set_option linter.unusedSimpArgs false

def Eff.v : Eff → Value
  | .val v => v
  | .new _ v => v
  | .upd _ _ v => v
  | .grow _ _ v => v
/-- The operands are what they are thought to be. -/
def EOk (K : Nat → Prop) (ρ : Val) (e : Operand → Option Value) (act : Operand → Value) : Prop := ∀ x v, e x = some v → act x = conc ρ v ∧ sc K v

def Does (P : Program) (K : Nat → Prop) (ρ : Val) (H : Heap) (w : World) (id : Nat) (ρ' : Val) (w' : World) : Eff → Prop
  | .val _ => ρ' = ρ ∧ w' = w
  | .new b _ => ∃ k d, ∃ ex : List Value, ex.length = k * cellsOf P b.t ∧ scL K b.c.list ∧ ρ' = ρ.put id w.heap.size k ∧ w' = { w with heap := w.heap.push (obj ρ b ex), drawn := d }
  | .upd i b _ => ∃ old, ∃ ex : List Value, H.get i = some old ∧ ex.length = ρ.room i * cellsOf P b.t ∧ scL K b.c.list ∧ ρ' = ρ ∧ w' = { w with heap := w.heap.setIfInBounds (ρ.blk i) (obj ρ b ex) }
  | .grow i b _ => (∃ k d, ∃ ex : List Value, ex.length = k * cellsOf P b.t ∧ scL K b.c.list ∧ ρ' = ρ.put id w.heap.size k ∧ w' = { w with heap := w.heap.push (obj ρ b ex), drawn := d }) ∨
    (∃ j old k, ∃ ex : List Value, i = some j ∧ H.get j = some old ∧ ex.length = k * cellsOf P b.t ∧ scL K b.c.list ∧ ρ' = ρ.put id (ρ.blk j) k ∧ w' = { w with heap := w.heap.setIfInBounds (ρ.blk j) (obj ρ b ex) })
def DoOk (P : Program) (K : Nat → Prop) (ρ : Val) (H : Heap) (w : World) (id : Nat) (eff : Eff) (r : Result Next) : Prop :=
  ∃ ρ' w' n, r = .ok n w' ∧ (n = .value (conc ρ' eff.v) ∨ n = .skip ∧ eff.v = undef) ∧ sc (also K id) eff.v ∧ Does P K ρ H w id ρ' w' eff

section
variable {P : Program} {K : Nat → Prop} {ρ : Val} {H : Heap} {w : World} {id : Nat} {e : Operand → Option Value} {act : Operand → Value} {o : Oper} {eff : Eff}

theorem DoOk.ofVal {v : Value} {r : Result Next} (hs : sc K v) (h : r = .ok (.value (conc ρ v)) w) : DoOk P K ρ H w id (.val v) r :=
  ⟨ρ, w, _, h, .inl rfl, sc_mono (fun _ h => .inl h) _ hs, rfl, rfl⟩

theorem cells_conc (v : Value) : (conc ρ v).cells.toList = concL ρ v.cells.toList := by
  cases v with
  | agg cs => obtain ⟨l⟩ := cs; simp [conc, Value.cells, concA]
  | pointer a => cases a <;> simp [conc, Value.cells, concL]
  | slice a l c => cases a <;> simp [conc, Value.cells, concL]
  | map a => cases a <;> simp [conc, Value.cells, concL]
  | _ => simp [conc, Value.cells, concL]
theorem cells_sc {v : Value} (h : sc K v) : scL K v.cells.toList := by
  cases v with
  | agg cs => obtain ⟨l⟩ := cs; simpa [sc, scA, Value.cells] using h
  | pointer a => cases a <;> simpa [Value.cells, scL] using h
  | slice a l c => cases a <;> simpa [Value.cells, scL] using h
  | map a => cases a <;> simpa [Value.cells, scL] using h
  | _ => simpa [Value.cells, scL] using h

theorem ok_box {t : TypeId} {x : Operand} (ho : o.op = .box t x) (he : EOk K ρ e act) (hid : ¬ K id) (h : (dop P o.op e H.get id).get = some eff) : DoOk P K ρ H w id eff ((execOp act o).run P w) := by
  rw [ho] at h
  simp only [dop, get_ofOpt] at h
  cases hx : e x with
  | none => simp [hx] at h
  | some v =>
    simp [hx] at h
    subst h
    obtain ⟨h1, h2⟩ := he x v hx
    refine ⟨ρ.put id w.heap.size 0, _, _, ?_, .inl rfl, ?_, 0, w.drawn, [], ?_, cells_sc h2, rfl, rfl⟩
    · simp only [execOp, ho, Instr.box, newVar, newRow, h1, Sem.run_bind, run_newObj, Result.andThen_ok, Sem.run_pure]
      simp [Eff.v, at_, conc, Val.put, obj, Cells.list, ← cells_conc]
    · simp [Eff.v, at_, sc, also]
    · simp

theorem ok_alloc {t : TypeId} (ho : o.op = .alloc t) (hid : ¬ K id) (h : (dop P o.op e H.get id).get = some eff) : DoOk P K ρ H w id eff ((execOp act o).run P w) := by
  rw [ho] at h
  simp only [dop, doAlloc] at h
  cases hi : P.info? t with
  | none => simp [hi] at h
  | some i =>
    cases hz : i.zero with
    | none => simp [hi, hz] at h
    | some z =>
      simp only [hi, hz] at h
      cases hp : plain z with
      | false => simp [hp] at h
      | true =>
        simp [hp] at h
        subst h
        refine ⟨ρ.put id w.heap.size 0, _, _, ?_, .inl rfl, ?_, 0, w.drawn, [], ?_, cells_sc (sc_plain K z hp), rfl, rfl⟩
        · simp only [execOp, ho, Instr.alloc, zeroValue, typeInfo, newVar, newRow, Sem.run_bind, run_program, run_newObj, Result.andThen_ok, Sem.run_pure, hi, hz]
          simp [Eff.v, at_, conc, Val.put, obj, Cells.list, ← cells_conc, conc_plain ρ z hp]
        · simp [Eff.v, at_, sc, also]
        · simp

theorem ok_move {x : Operand} (ho : o.op = .move x ∨ o.op = .assign x) (he : EOk K ρ e act) (h : (dop P o.op e H.get id).get = some eff) : DoOk P K ρ H w id eff ((execOp act o).run P w) := by
  have h : ((ofOpt (e x) fun v => .leaf (.val v)) : Tree Eff).get = some eff := by rcases ho with ho | ho <;> (rw [ho] at h; exact h)
  simp only [get_ofOpt] at h
  cases hx : e x with
  | none => simp [hx] at h
  | some v =>
    simp [hx] at h
    subst h
    obtain ⟨h1, h2⟩ := he x v hx
    refine DoOk.ofVal h2 ?_
    rcases ho with ho | ho <;> simp [execOp, ho, h1]

theorem ok_pick {c a b : Operand} (ho : o.op = .pick c a b) (he : EOk K ρ e act) (h : (dop P o.op e H.get id).get = some eff) : DoOk P K ρ H w id eff ((execOp act o).run P w) := by
  rw [ho] at h
  simp only [dop, doPick, get_ofOpt] at h
  cases hc : e c with
  | none => simp [hc] at h
  | some vc =>
    simp only [hc, Option.bind_some] at h
    obtain ⟨c1, _⟩ := he c vc hc
    cases vc with
    | bool t =>
      have run : ∀ v, (if t = true then act a else act b) = conc ρ v → (execOp act o).run P w = .ok (.value (conc ρ v)) w := by
        intro v hv
        simp only [execOp, ho, c1, conc, asBool, Sem.run_bind, Sem.run_pure, Result.andThen_ok, hv]
      simp only at h
      split at h
      · rename_i x y ha hb
        simp at h
        subst h
        refine DoOk.ofVal (by simp [sc]) (run _ ?_)
        rw [(he a _ ha).1, (he b _ hb).1]
        cases t <;> simp [conc]
      · rename_i hn
        simp only [Tree.get_br, get_ofOpt] at h
        cases t with
        | true =>
          simp only [if_true] at h
          cases ha : e a with
          | none => simp [ha] at h
          | some v =>
            simp [ha] at h
            subst h
            exact DoOk.ofVal (he a v ha).2 (run _ (by simp [(he a v ha).1]))
        | false =>
          simp only [Bool.false_eq_true, if_false] at h
          cases hb : e b with
          | none => simp [hb] at h
          | some v =>
            simp [hb] at h
            subst h
            exact DoOk.ofVal (he b v hb).2 (run _ (by simp [(he b v hb).1]))
    | _ => simp at h

theorem ok_nil {x : Operand} (ho : o.op = .nilCheck x) (he : EOk K ρ e act) (h : (dop P o.op e H.get id).get = some eff) : DoOk P K ρ H w id eff ((execOp act o).run P w) := by
  rw [ho] at h
  simp only [dop, doNil, get_ofOpt] at h
  cases hx : e x with
  | none => simp [hx] at h
  | some v =>
    simp only [hx, Option.bind_some] at h
    obtain ⟨h1, h2⟩ := he x v hx
    split at h
    · simp at h
      subst h
      exact DoOk.ofVal h2 (by simp [execOp, ho, h1, conc])
    · simp at h
      subst h
      exact DoOk.ofVal h2 (by simp [execOp, ho, h1, conc])
    · simp at h

theorem ok_un {op : UnOp} {t : TypeId} {x : Operand} (ho : o.op = .unOp op t x) (he : EOk K ρ e act) (h : (dop P o.op e H.get id).get = some eff) : DoOk P K ρ H w id eff ((execOp act o).run P w) := by
  rw [ho] at h
  simp only [dop, doUn, get_ofOpt] at h
  cases hx : e x with
  | none => simp [hx] at h
  | some v =>
    simp only [hx, Option.bind_some] at h
    obtain ⟨h1, h2⟩ := he x v hx
    split at h
    · simp at h
      subst h
      exact DoOk.ofVal (by simp [sc]) (by simp [execOp, ho, h1, conc, Op.unary])
    · simp at h
      subst h
      exact DoOk.ofVal (by simp [sc]) (by simp [execOp, ho, h1, conc, Op.unary, Op.intArith])
    · simp at h

theorem ok_conv {s d : TypeId} {x : Operand} (ho : o.op = .convert s d x) (he : EOk K ρ e act) (h : (dop P o.op e H.get id).get = some eff) : DoOk P K ρ H w id eff ((execOp act o).run P w) := by
  rw [ho] at h
  simp only [dop, doConv, get_ofOpt] at h
  cases hx : e x with
  | none => simp [hx] at h
  | some v =>
    simp only [hx, Option.bind_some] at h
    obtain ⟨h1, h2⟩ := he x v hx
    split at h
    · rename_i k0 k k1 n hs hd
      simp at h
      subst h
      exact DoOk.ofVal (by simp [sc]) (by simp [execOp, ho, h1, conc, convert, run_underlying hs, run_underlying hd, Conv.intToInt])
    · simp at h

theorem ok_extract {x : Operand} {i : Nat} (ho : o.op = .extract x i) (he : EOk K ρ e act) (h : (dop P o.op e H.get id).get = some eff) : DoOk P K ρ H w id eff ((execOp act o).run P w) := by
  rw [ho] at h
  simp only [dop, doExtract, get_ofOpt] at h
  cases hx : e x with
  | none => simp [hx] at h
  | some v =>
    simp only [hx, Option.bind_some] at h
    obtain ⟨h1, h2⟩ := he x v hx
    split at h
    · rename_i vs
      simp only [get_ofOpt] at h
      cases hn : nth vs.toList i with
      | none => simp [hn] at h
      | some u =>
        simp [hn] at h
        subst h
        rw [nth_eq] at hn
        obtain ⟨l⟩ := vs
        simp at hn
        refine DoOk.ofVal ?_ ?_
        · simp only [sc, scA, scL_iff] at h2
          exact h2 u (List.mem_of_getElem? hn)
        · simp [execOp, ho, h1, conc, concA, concL_eq, Instr.extract, hn]
    · simp at h

theorem mapO_ok {α β : Type} {f : α → Option β} : ∀ {l : List α} {r : List β}, mapO f l = some r → r.length = l.length ∧ ∀ (i : Nat) (x : α), l[i]? = some x → ∃ y, r[i]? = some y ∧ f x = some y
  | [], r, h => by simp [mapO] at h; subst h; simp
  | x :: l, r, h => by
    simp only [mapO] at h
    cases hf : f x with
    | none => simp [hf] at h
    | some y =>
      cases hm : mapO f l with
      | none => simp [hf, hm] at h
      | some q =>
        simp [hf, hm] at h
        subst h
        obtain ⟨h1, h2⟩ := mapO_ok hm
        refine ⟨by simp [h1], fun i z hz => ?_⟩
        cases i with
        | zero => simp at hz; subst hz; exact ⟨y, by simp, hf⟩
        | succ i => simp at hz; simpa using h2 i z hz
theorem mapO_act {l : List Operand} {r : List Value} (he : EOk K ρ e act) (h : mapO e l = some r) : l.map act = concL ρ r ∧ scL K r := by
  induction l generalizing r with
  | nil => simp [mapO] at h; subst h; simp [concL, scL]
  | cons x l ih =>
    simp only [mapO] at h
    cases hf : e x with
    | none => simp [hf] at h
    | some y =>
      cases hm : mapO e l with
      | none => simp [hf, hm] at h
      | some q =>
        simp [hf, hm] at h
        subst h
        obtain ⟨h1, h2⟩ := ih hm
        simp [concL, scL, h1, h2, (he x y hf).1, (he x y hf).2]

theorem ok_func {f : FuncId} {a b : Array Operand} (ho : o.op = .makeFunc (.func f) a b) (he : EOk K ρ e act) (h : (dop P o.op e H.get id).get = some eff) : DoOk P K ρ H w id eff ((execOp act o).run P w) := by
  rw [ho] at h
  simp only [dop, get_ofOpt] at h
  cases ha : mapO e a.toList with
  | none => simp [ha] at h
  | some va =>
    cases hb : mapO e b.toList with
    | none => simp [ha, hb] at h
    | some vb =>
      simp [ha, hb] at h
      subst h
      obtain ⟨a1, a2⟩ := mapO_act he ha
      obtain ⟨b1, b2⟩ := mapO_act he hb
      obtain ⟨la⟩ := a
      obtain ⟨lb⟩ := b
      simp at a1 b1
      refine DoOk.ofVal (by simp [sc, scA, a2, b2]) ?_
      simp [execOp, ho, Instr.makeFunc, conc, concA, a1, b1]

theorem add_at {i off n : Nat} : (⟨i, off, none⟩ : Addr).add n = ⟨i, off + n, none⟩ := by
  unfold Addr.add
  split <;> simp_all

theorem ok_fieldAddr {s : TypeId} {x : Operand} {f : Nat} (ho : o.op = .fieldAddr s x f) (he : EOk K ρ e act) (h : (dop P o.op e H.get id).get = some eff) : DoOk P K ρ H w id eff ((execOp act o).run P w) := by
  rw [ho] at h
  simp only [dop, doFieldAddr, get_ofOpt] at h
  cases hx : e x with
  | none => simp [hx] at h
  | some v =>
    simp only [hx, Option.bind_some] at h
    obtain ⟨h1, h2⟩ := he x v hx
    split at h
    · rename_i i off fs hu
      cases hn : nth fs.toList f with
      | none => simp [hn] at h
      | some fd =>
        simp only [hn] at h
        cases hi : P.info? fd.type with
        | none => simp [hi] at h
        | some ti =>
          simp only [hi] at h
          cases hz : (ti.size == 0) with
          | true => simp [hz] at h
          | false =>
            simp [hz] at h
            subst h
            have hz' : ti.size ≠ 0 := by simpa using hz
            rw [nth_eq] at hn
            have hn' : fs[f]? = some fd := by simpa using hn
            refine DoOk.ofVal (by simpa [at_, sc] using h2) ?_
            simp [execOp, ho, h1, conc, Instr.fieldAt, run_underlying hu, hn', Instr.sureAddr, fieldPlace, sizeOf, typeInfo, hi, hz', at_, add_at]
    · simp at h

theorem ok_field {t : TypeId} {x : Operand} {f : Nat} (ho : o.op = .field t x f) (he : EOk K ρ e act) (h : (dop P o.op e H.get id).get = some eff) : DoOk P K ρ H w id eff ((execOp act o).run P w) := by
  rw [ho] at h
  simp only [dop, doField, get_ofOpt] at h
  cases hx : e x with
  | none => simp [hx] at h
  | some v =>
    simp only [hx, Option.bind_some] at h
    obtain ⟨h1, h2⟩ := he x v hx
    split at h
    · rename_i fs cs hu
      obtain ⟨l⟩ := cs
      simp only [sc, scA, scL_iff] at h2
      cases hn : nth fs.toList f with
      | none => simp [hn] at h
      | some fd =>
        simp only [hn, get_ofOpt, isAggT] at h
        rw [nth_eq] at hn
        have hn' : fs[f]? = some fd := by simpa using hn
        cases hd : P.underlying fd.type with
        | none => simp [hd] at h
        | some u =>
          simp only [hd, Option.bind_some] at h
          cases ha : aggD u with
          | true =>
            simp only [ha, cond] at h
            cases hi : P.info? fd.type with
            | none => simp [hi] at h
            | some ti =>
              simp only [hi, get_ofOpt] at h
              cases ht : takeAt l fd.offset ti.size with
              | none => simp [ht] at h
              | some r =>
                simp [ht] at h
                subst h
                obtain ⟨r1, r2⟩ := takeAt_eq _ _ _ _ ht
                subst r1
                refine DoOk.ofVal ?_ ?_
                · simp only [sc, scA, scL_iff]
                  exact fun v hv => h2 v (List.mem_of_mem_drop (List.mem_of_mem_take hv))
                · simp [execOp, ho, h1, conc, concA, concL_eq, Instr.field, run_underlying hu, hn', asAgg, run_part_agg hd ha hi, List.extract, List.map_drop, List.map_take]
          | false =>
            simp only [ha, cond, get_ofOpt] at h
            cases ht : nth l fd.offset with
            | none => simp [ht] at h
            | some r =>
              simp [ht] at h
              subst h
              rw [nth_eq] at ht
              refine DoOk.ofVal (h2 r (List.mem_of_getElem? ht)) ?_
              have hp : (part fd.type (concA ρ ⟨l⟩) fd.offset).run P w = .ok (conc ρ r) w := run_part_one hd ha (by simp [concA, concL_eq, ht]) w
              simp [execOp, ho, h1, conc, Instr.field, run_underlying hu, hn', asAgg, hp]
    · simp at h
end
end Go.Proofs.Ytbgdhahdihbpaaa.Ev
end

section
namespace Go.Proofs.Ytbgdhahdihbpaaa.Ev
set_option linter.unusedVariables false
set_option linter.unusedSimpArgs false
section
variable {P : Program} {K : Nat → Prop} {ρ : Val} {H : Heap} {w : World} {id : Nat} {e : Operand → Option Value} {act : Operand → Value} {o : Oper} {eff : Eff}

theorem ok_indexAddr {t : TypeId} {x ix : Operand} (ho : o.op = .indexAddr t x ix) (he : EOk K ρ e act) (h : (dop P o.op e H.get id).get = some eff) : DoOk P K ρ H w id eff ((execOp act o).run P w) := by
  rw [ho] at h
  simp only [dop, doIndexAddr, get_ofOpt] at h
  cases hx : e x with
  | none => simp [hx] at h
  | some v =>
    cases hj : e ix with
    | none => simp [hx, hj] at h
    | some j =>
      simp only [hx, hj, Option.bind_some] at h
      obtain ⟨h1, h2⟩ := he x v hx
      obtain ⟨j1, j2⟩ := he ix j hj
      split at h
      · rename_i el i off len cap k n hu
        cases hi : P.info? el with
        | none => simp [hi] at h
        | some ti =>
          simp only [hi, Tree.get_br] at h
          by_cases hc : 0 ≤ n ∧ n < len
          · simp [hc] at h
            subst h
            refine DoOk.ofVal (by simpa [at_, sc] using h2) ?_
            have hc' : 0 ≤ n ∧ n < (len : Int) := hc
            simp [execOp, ho, h1, j1, conc, Instr.indexAt, asIntOf, run_underlying hu, sizeOf, typeInfo, hi, hc', at_, add_at]
          · simp [hc] at h
      · rename_i len el i off k n hu
        cases hi : P.info? el with
        | none => simp [hi] at h
        | some ti =>
          simp only [hi, Tree.get_br] at h
          by_cases hc : 0 ≤ n ∧ n < len
          · simp [hc] at h
            subst h
            refine DoOk.ofVal (by simpa [at_, sc] using h2) ?_
            have hc' : 0 ≤ n ∧ n < (len : Int) := hc
            simp [execOp, ho, h1, j1, conc, Instr.indexAt, Instr.sureAddr, asIntOf, run_underlying hu, sizeOf, typeInfo, hi, hc', at_, add_at]
          · simp [hc] at h
      · simp at h

theorem eql_run {t : TypeId} {a b : Value} {r : Bool} (h : (Op.equalIn 10000 t a b).run P w = .ok r w) :
    ((do pure (.bool (← Op.equal t a b))) : Sem Value).run P w = .ok (.bool r) w ∧ ((do pure (.bool (!(← Op.equal t a b)))) : Sem Value).run P w = .ok (.bool (!r)) w := by
  have h' : (Op.equal t a b).run P w = .ok r w := h
  constructor <;> rw [Sem.run_bind, h'] <;> rfl
theorem eqNil_ok {t : TypeId} {u : TypeDesc} {a b : Value} {r : Bool} (hu : P.underlying t = some u) (h : eqNil u a b = some r) (d : Nat) :
    (Op.equalIn (d + 1) t (conc ρ a) (conc ρ b)).run P w = .ok r w := by
  unfold eqNil at h
  split at h <;> simp at h <;> subst h <;> simp [Op.equalIn, run_underlying hu, conc]
theorem eqNil_bin {t : TypeId} {u : TypeDesc} {a b : Value} {r : Bool} (hu : P.underlying t = some u) (h : eqNil u a b = some r) (x y : Operand) :
    (binOp .eql t (conc ρ a) (conc ρ b)).run P w = .ok (.bool r) w ∧ (binOp .neq t (conc ρ a) (conc ρ b)).run P w = .ok (.bool (!r)) w ∧ ∀ op, (eqGuard op t x y (conc ρ a) (conc ρ b)).run P w = .ok () w := by
  obtain ⟨r1, r2⟩ := eql_run (eqNil_ok (ρ := ρ) (w := w) hu h 9999)
  unfold eqNil at h
  split at h <;> (try simp at h; done) <;> simp only [conc] at r1 r2 ⊢ <;> exact ⟨r1, r2, fun op => by cases op <;> simp [eqGuard]⟩

theorem ok_bin {op : BinOp} {t yt : TypeId} {x y : Operand} (ho : o.op = .binOp op t x y yt) (he : EOk K ρ e act) (h : (dop P o.op e H.get id).get = some eff) : DoOk P K ρ H w id eff ((execOp act o).run P w) := by
  rw [ho] at h
  simp only [dop, doBin, get_ofOpt] at h
  cases hx : e x with
  | none => simp [hx] at h
  | some a =>
    cases hy : e y with
    | none => simp [hx, hy] at h
    | some b =>
      simp only [hx, hy, Option.bind_some] at h
      obtain ⟨a1, a2⟩ := he x a hx
      obtain ⟨b1, b2⟩ := he y b hy
      split at h
      · rename_i k n k' m
        cases hk : (decide (k = k') || isShift op) with
        | false => simp [hk] at h
        | true =>
          simp only [hk, cond, Tree.get_bind] at h
          cases hv : (int2 op k n m).get with
          | none => simp [hv] at h
          | some v =>
            simp [hv] at h
            subst h
            have hk' : k = k' ∨ op = .shl ∨ op = .shr := by
              simp only [Bool.or_eq_true, decide_eq_true_eq] at hk
              rcases hk with hk | hk
              · exact .inl hk
              · right; cases op <;> simp_all [isShift]
            obtain ⟨r1, r2⟩ := int2_ok P t w hk' hv
            have hsc : sc K v := by
              cases op <;> simp [int2] at hv <;> (first | (subst hv; simp [sc]; done) | (obtain ⟨_, rfl⟩ := hv; simp [sc]; done))
            refine DoOk.ofVal hsc ?_
            have hg : (eqGuard op t x y (.int k n) (.int k' m)).run P w = .ok () w := by cases op <;> simp [eqGuard]
            simp [execOp, ho, a1, b1, conc, r1, r2, hg]
      · rename_i xs ys
        rw [Bool.cond_eq_ite] at h
        split at h
        case isFalse => simp at h
        case isTrue hp =>
          simp only [get_ofOpt] at h
          simp only [Bool.and_eq_true, Bool.not_eq_true'] at hp
          cases hs : same1 P 10000 t (.agg xs) (.agg ys) with
          | none => simp [hs] at h
          | some r =>
            simp only [hs, Option.bind_some] at h
            have hg : (eqGuard op t x y (.agg xs) (.agg ys)).run P w = .ok () w := run_eqGuard_agg w op t x y xs ys hp.2
            have big : (Op.equalIn 10000 t (.agg xs) (.agg ys)).run P w = .ok r w := same1_ok 10000 t _ _ r w hs
            split at h
            · simp at h; subst h
              refine DoOk.ofVal (by simp [sc]) ?_
              simp [execOp, ho, a1, b1, conc, concA_plain ρ _ hp.1.1, concA_plain ρ _ hp.1.2, hg, run_eql_struct, big]
            · simp at h; subst h
              refine DoOk.ofVal (by simp [sc]) ?_
              simp [execOp, ho, a1, b1, conc, concA_plain ρ _ hp.1.1, concA_plain ρ _ hp.1.2, hg, run_neq_struct, big]
            · simp at h
      · rename_i n m
        split at h
        · simp at h; subst h
          refine DoOk.ofVal (by simp [sc]) ?_
          simp [execOp, ho, a1, b1, conc, eqGuard, binOp, Op.stringOp]
        · simp at h; subst h
          refine DoOk.ofVal (by simp [sc]) ?_
          simp [execOp, ho, a1, b1, conc, eqGuard, binOp, Op.stringOp]
        · simp at h
      · cases hu : P.underlying t with
        | none => simp [hu] at h
        | some u =>
          simp only [hu, get_ofOpt] at h
          cases hr : eqNil u a b with
          | none => simp [hr] at h
          | some r =>
            simp only [hr, Option.bind_some] at h
            obtain ⟨r1, r2, r3⟩ := eqNil_bin (w := w) (ρ := ρ) hu hr x y
            split at h
            · simp at h; subst h
              refine DoOk.ofVal (by simp [sc]) ?_
              simp [execOp, ho, a1, b1, conc, r1, r3]
            · simp at h; subst h
              refine DoOk.ofVal (by simp [sc]) ?_
              simp [execOp, ho, a1, b1, conc, r2, r3]
            · simp at h
end
end Go.Proofs.Ytbgdhahdihbpaaa.Ev
end

section
namespace Go.Proofs.Ytbgdhahdihbpaaa.Ev
set_option linter.unusedVariables false
set_option linter.unusedSimpArgs false
section
variable {P : Program} {K : Nat → Prop} {ρ : Val} {H : Heap} {w : World} {id : Nat} {e : Operand → Option Value} {act : Operand → Value} {o : Oper} {eff : Eff}

theorem cells_concA (v : Value) : (conc ρ v).cells = concA ρ v.cells := by
  apply Array.ext'
  rw [cells_conc]
  obtain ⟨l⟩ := v.cells
  simp [concA]
theorem concA_set (cs : Array Value) (i : Nat) (v : Value) : concA ρ (cs.setIfInBounds i v) = (concA ρ cs).setIfInBounds i (conc ρ v) := by
  simp only [concA_eq]
  apply Array.ext'
  simp [List.map_set]
theorem fillOne (off : Nat) : ∀ (l : List (Value × Nat)) (cs : Array Value),
    (l.map fun p => (conc ρ p.1, p.2)).foldl (fun cs (p : Value × Nat) => cs.setIfInBounds (off + p.2) p.1) (concA ρ cs) = concA ρ (l.foldl (fun cs (p : Value × Nat) => cs.setIfInBounds (off + p.2) p.1) cs)
  | [], cs => rfl
  | p :: l, cs => by
    simp only [List.map_cons, List.foldl_cons]
    rw [← concA_set, fillOne off l]
theorem fill_conc (place : Nat → Option (Nat × Nat)) : ∀ (ps : List (Nat × Value)) (cs : Array Value),
    Instr.fill place (concA ρ cs) (ps.map fun p => (p.1, conc ρ p.2)) = (Instr.fill place cs ps).map (concA ρ)
  | [], cs => by simp [Instr.fill]
  | (i, v) :: ps, cs => by
    simp only [List.map_cons, Instr.fill, cells_concA, concA_size]
    cases place i with
    | none => rfl
    | some q =>
      obtain ⟨off, size⟩ := q
      simp only
      split
      · rfl
      · rw [← fill_conc place ps]
        congr 1
        rw [← Array.foldl_toList, ← Array.foldl_toList]
        rw [show (concA ρ v.cells).zipIdx.toList = (v.cells.zipIdx.toList.map fun p => (conc ρ p.1, p.2)) by
          obtain ⟨l⟩ := v.cells
          simp [concA, concL_eq, List.zipIdx_map]]
        exact fillOne off _ cs
theorem setSc {cs : Array Value} {i : Nat} {v : Value} (h : scA K cs) (hv : sc K v) : scA K (cs.setIfInBounds i v) := by
  rw [scA_iff] at *
  intro u hu
  simp at hu
  rcases List.mem_or_eq_of_mem_set hu with hu | rfl
  · exact h u hu
  · exact hv
theorem fillOneSc (off : Nat) : ∀ (l : List (Value × Nat)) (cs : Array Value), (∀ p ∈ l, sc K p.1) → scA K cs → scA K (l.foldl (fun cs (p : Value × Nat) => cs.setIfInBounds (off + p.2) p.1) cs)
  | [], cs, _, h => h
  | p :: l, cs, hl, h => fillOneSc off l _ (fun q hq => hl q (by simp [hq])) (setSc h (hl p (by simp)))
theorem fill_sc (place : Nat → Option (Nat × Nat)) : ∀ (ps : List (Nat × Value)) (cs r : Array Value), (∀ p ∈ ps, sc K p.2) → scA K cs → Instr.fill place cs ps = some r → scA K r
  | [], cs, r, _, h, hr => by simp [Instr.fill] at hr; subst hr; exact h
  | (i, v) :: ps, cs, r, hp, h, hr => by
    simp only [Instr.fill] at hr
    cases hq : place i with
    | none => simp [hq] at hr
    | some q =>
      obtain ⟨off, size⟩ := q
      simp only [hq] at hr
      split at hr
      · simp at hr
      · refine fill_sc place ps _ r (fun p hm => hp p (by simp [hm])) ?_ hr
        rw [← Array.foldl_toList]
        refine fillOneSc off _ cs (fun p hm => ?_) h
        have hv : sc K v := hp (i, v) (by simp)
        have := cells_sc hv
        rw [scL_iff] at this
        obtain ⟨x, j⟩ := p
        have hx : x ∈ v.cells.toList := by
          have := List.mem_iff_getElem?.1 hm
          obtain ⟨m, hm⟩ := this
          simp at hm
          obtain ⟨y, hy, rfl, _⟩ := hm
          exact List.mem_of_getElem? (by simpa using hy)
        exact this x hx
theorem parts_ok {parts : Array (Nat × Operand)} {ps : List (Nat × Value)} (he : EOk K ρ e act) (h : mapO (partO e) parts.toList = some ps) :
    (parts.map fun (i, x) => (i, act x)).toList = (ps.map fun p => (p.1, conc ρ p.2)) ∧ ∀ p ∈ ps, sc K p.2 := by
  obtain ⟨l⟩ := parts
  simp only [List.map_toArray] at h ⊢
  induction l generalizing ps with
  | nil => simp [mapO] at h; subst h; simp
  | cons x l ih =>
    simp only [mapO, partO] at h
    obtain ⟨i, x⟩ := x
    cases hf : e x with
    | none => simp [hf] at h
    | some y =>
      simp only [hf] at h
      cases hm : mapO (partO e) l with
      | none => simp [hm] at h
      | some q =>
        simp [hm] at h
        subst h
        obtain ⟨h1, h2⟩ := ih hm
        refine ⟨by simpa [(he x y hf).1] using h1, fun p hp => ?_⟩
        simp at hp
        rcases hp with rfl | hp
        · exact (he x y hf).2
        · exact h2 p hp

theorem ok_build {t : TypeId} {parts : Array (Nat × Operand)} (ho : o.op = .build t parts) (he : EOk K ρ e act) (h : (dop P o.op e H.get id).get = some eff) : DoOk P K ρ H w id eff ((execOp act o).run P w) := by
  rw [ho] at h
  simp only [dop, doBuild, get_ofOpt] at h
  generalize hm : mapO _ parts.toList = m at h
  cases m with
  | none => simp at h
  | some ps =>
    simp only [Option.bind_some] at h
    obtain ⟨p1, p2⟩ := parts_ok he hm
    cases hi : P.info? t with
    | none => simp [hi] at h
    | some i =>
      cases hz : i.zero with
      | none => simp [hi, hz] at h
      | some z =>
        simp only [hi, hz] at h
        cases hp : plain z with
        | false => simp [hp] at h
        | true =>
          simp only [hp, cond, get_ofOpt] at h
          cases hb : P.built t ps with
          | none => simp [hb] at h
          | some cs =>
            simp [hb] at h
            subst h
            have hzc : concA ρ z.cells = z.cells := by rw [← cells_concA, conc_plain ρ z hp]
            have hzs : scA K z.cells := by
              have := cells_sc (sc_plain K z hp)
              rw [scL_iff] at this
              rw [scA_iff]
              exact this
            have both : P.built t (ps.map fun p => (p.1, conc ρ p.2)) = some (concA ρ cs) ∧ scA K cs := by
              unfold Program.built at hb ⊢
              simp only [hi] at hb ⊢
              cases hu : P.underlying t with
              | none => simp [hu] at hb
              | some u =>
                simp only [hu] at hb ⊢
                cases u <;> simp only [hz] at hb ⊢ <;> try (simp at hb; done)
                case array n el =>
                  cases hie : P.info? el with
                  | none => simp [hie] at hb
                  | some ie =>
                    simp only [hie] at hb ⊢
                    refine ⟨?_, fill_sc _ ps _ _ p2 hzs hb⟩
                    rw [← hzc, fill_conc, hb]; rfl
                case struct fields =>
                  cases hf : fields.toList.mapM (fun f => (P.info? f.type).map fun i => (f.offset, i.size)) with
                  | none => simp [hf] at hb
                  | some places =>
                    simp only [hf] at hb ⊢
                    refine ⟨?_, fill_sc _ ps _ _ p2 hzs hb⟩
                    rw [← hzc, fill_conc, hb]; rfl
            refine DoOk.ofVal (by simpa [sc] using both.2) ?_
            have := run_build w t (parts.map fun (i, x) => (i, act x)) (concA ρ cs) (by rw [p1]; exact both.1)
            simp [execOp, ho, conc, this]

theorem ok_buildSlice {t : TypeId} {len : Nat} {parts : Array (Nat × Operand)} (ho : o.op = .buildSlice t len parts) (he : EOk K ρ e act) (hid : ¬ K id) (h : (dop P o.op e H.get id).get = some eff) : DoOk P K ρ H w id eff ((execOp act o).run P w) := by
  rw [ho] at h
  simp only [dop, doBuildSlice, get_ofOpt] at h
  generalize hm : mapO _ parts.toList = m at h
  cases m with
  | none => simp at h
  | some ps =>
    simp only [Option.bind_some] at h
    obtain ⟨p1, p2⟩ := parts_ok he hm
    split at h
    · rename_i el hu
      cases hi : P.info? el with
      | none => simp [hi] at h
      | some i =>
        cases hz : i.zero with
        | none => simp [hi, hz] at h
        | some z =>
          simp only [hi, hz] at h
          rw [Bool.cond_eq_ite] at h
          split at h
          case isFalse => simp at h
          case isTrue hp =>
          simp only [Bool.and_eq_true] at hp
          obtain ⟨hp, hle⟩ := hp
          have hle : len * i.size ≤ 100000 := Nat.le_of_ble_eq_true hle
          generalize hzz : (bif len * i.size == 0 then (#[] : Array Value) else z.cells) = zz at h
          have hzc : concA ρ zz = zz ∧ scA K zz := by
            subst hzz
            rw [Bool.cond_eq_ite]
            split
            · exact ⟨by simp [concA_eq], by simp [scA, scL]⟩
            · refine ⟨by rw [← cells_concA, conc_plain ρ z hp], ?_⟩
              have := cells_sc (sc_plain K z hp)
              rw [scL_iff] at this
              rw [scA_iff]
              exact this
          have base : concA ρ ((Array.range (len * i.size)).map (zz[· % zz.size]!)) = (Array.range (len * i.size)).map (zz[· % zz.size]!) ∧ scA K ((Array.range (len * i.size)).map (zz[· % zz.size]!)) := by
            have key : ∀ j, j < len * i.size → conc ρ (zz[j % zz.size]!) = zz[j % zz.size]! ∧ sc K (zz[j % zz.size]!) := by
              intro j hj
              have hne : (len * i.size == 0) = false := by simp; omega
              have hzz' : zz = z.cells := by rw [← hzz, hne]; rfl
              by_cases hs : zz.size = 0
              · have : zz[j % zz.size]! = (default : Value) := by simp [hs]
                rw [this]
                exact ⟨by simp [default, instInhabitedValue, instInhabitedValue.default, conc], by simp [default, instInhabitedValue, instInhabitedValue.default, sc]⟩
              · have hlt : j % zz.size < zz.size := Nat.mod_lt _ (by omega)
                have hg : zz[j % zz.size]! = zz[j % zz.size] := by simp [hlt]
                rw [hg]
                refine ⟨?_, (scA_iff.1 hzc.2) _ (by simp)⟩
                have := congrArg (fun a => a[j % zz.size]?) hzc.1
                simp [concA_eq, hlt] at this
                exact this
            refine ⟨?_, ?_⟩
            · rw [concA_eq, Array.map_map]
              apply Array.map_congr_left
              intro j hj
              simp at hj
              exact (key j hj).1
            · rw [scA_iff]
              intro v hv
              simp at hv
              obtain ⟨j, hj, rfl⟩ := hv
              exact (key j hj).2
          cases hf : Instr.fill (fun j => some (j * i.size, i.size)) ((Array.range (len * i.size)).map (zz[· % zz.size]!)) ps with
          | none => simp only [hf] at h; simp at h
          | some cs =>
            simp only [hf] at h
            simp at h
            subst h
            have hfc : Instr.fill (fun j => some (j * i.size, i.size)) ((Array.range (len * i.size)).map (zz[· % zz.size]!)) (ps.map fun p => (p.1, conc ρ p.2)) = some (concA ρ cs) := by
              have := fill_conc (ρ := ρ) (fun j => some (j * i.size, i.size)) ps ((Array.range (len * i.size)).map (zz[· % zz.size]!))
              rw [base.1, hf] at this
              exact this
            refine ⟨ρ.put id w.heap.size 0, _, _, ?_, .inl rfl, ?_, 0, w.drawn, [], ?_, ?_, rfl, rfl⟩
            · have e1 : ¬ len * i.size > 2 ^ 24 := by omega
              have run : (Instr.buildSlice t len (parts.map fun (i, x) => (i, act x))).run P w = .ok (.slice (some ⟨w.heap.size, 0, none⟩) len len) { w with heap := w.heap.push (.cells (concA ρ cs) el) } := by
                simp only [Instr.buildSlice, Sem.run_bind, run_underlying hu, Result.andThen_ok, sizeOf, typeInfo, run_program, hi, Sem.run_pure, if_neg e1, p1]
                by_cases h0 : len * i.size = 0
                · have hzz' : zz = #[] := by rw [← hzz, h0]; rfl
                  simp only [if_pos h0, Sem.run_bind, Sem.run_pure, Result.andThen_ok]
                  rw [hzz'] at hfc
                  rw [hfc]
                  simp [newRow]
                · have hzz' : zz = z.cells := by
                    rw [← hzz, Bool.cond_eq_ite, if_neg (by simpa using h0)]
                  simp only [if_neg h0, Sem.run_bind, zeroValue, typeInfo, run_program, hi, hz, Result.andThen_ok, Sem.run_pure]
                  rw [hzz'] at hfc
                  rw [hfc]
                  simp [newRow]
              obtain ⟨l⟩ := cs
              simp only [execOp, ho, Sem.run_bind, run, Result.andThen_ok, Sem.run_pure]
              simp [Eff.v, conc, Val.put, obj, Cells.list, concA]
            · simp [Eff.v, sc, also]
            · simp
            · have := fill_sc _ ps _ _ p2 base.2 hf
              rw [scA_iff] at this
              simp only [Cells.list]
              rw [scL_iff]
              exact this
    · simp at h

theorem loadCells_ok {b : Nat} {cs : List Value} {t : TypeId} (hb : w.heap[b]? = some (.cells ⟨cs⟩ t (0, 0))) (off n : Nat) (h : off + n ≤ cs.length) :
    (loadCells ⟨b, off, none⟩ n).run P w = .ok ((cs.drop off).take n).toArray w := by
  have hl : ((cs.drop off).take n).length = n := by simp; omega
  have := run_loadCells_list (P := P) w ⟨b, off, none⟩ ((cs.drop off).take n) (fun j v hv => by
    rw [add_at, cell_of_row w b (off + j) ⟨cs⟩ t (0, 0) hb]
    rw [List.getElem?_take] at hv
    split at hv
    · simpa using hv
    · simp at hv)
  rw [hl] at this
  exact this
theorem load_one {b : Nat} {cs : List Value} {t : TypeId} {v : Value} (hb : w.heap[b]? = some (.cells ⟨cs⟩ t (0, 0))) (off : Nat) (h : cs[off]? = some v) :
    (load ⟨b, off, none⟩).run P w = .ok v w := by
  have : w.cell? ⟨b, off, none⟩ = some v := by
    rw [cell_of_row w b off ⟨cs⟩ t (0, 0) hb]
    simpa using h
  simp [this]
theorem run_isAgg {t : TypeId} {u : TypeDesc} (hu : P.underlying t = some u) : (isAgg t).run P w = .ok (aggD u) w := by
  unfold isAgg
  rw [Sem.run_bind, run_underlying hu w]
  cases u <;> simp [aggD]

theorem ok_load {t : TypeId} {x : Operand} (ho : o.op = .load t x) (he : EOk K ρ e act) (hr : Reps P K ρ H w) (h : (dop P o.op e H.get id).get = some eff) : DoOk P K ρ H w id eff ((execOp act o).run P w) := by
  rw [ho] at h
  simp only [dop, doLoad, get_ofOpt] at h
  cases hx : e x with
  | none => simp [hx] at h
  | some v =>
    simp only [hx, Option.bind_some] at h
    obtain ⟨h1, h2⟩ := he x v hx
    split at h
    · rename_i i off
      simp only [get_ofOpt] at h
      cases hg : H.get i with
      | none => simp [hg] at h
      | some b =>
        simp only [hg, Option.bind_some, isAggT] at h
        obtain ⟨ex, hb, _⟩ := hr.blk i b hg
        obtain ⟨hk, hsc⟩ := hr.known i b hg
        cases hu : P.underlying t with
        | none => simp [hu] at h
        | some u =>
          simp only [hu, Option.bind_some] at h
          cases ha : aggD u with
          | true =>
            simp only [ha, cond] at h
            split at h
            · rename_i ti l hi hc
              simp only [get_ofOpt] at h
              cases ht : takeAt l off ti.size with
              | none => simp [ht] at h
              | some r =>
                simp [ht] at h
                subst h
                obtain ⟨r1, r2⟩ := takeAt_eq _ _ _ _ ht
                subst r1
                have hl : b.c.list = l := by rw [hc]; rfl
                rw [hl] at hsc
                rw [scL_iff] at hsc
                refine DoOk.ofVal ?_ ?_
                · simp only [sc, scA, scL_iff]
                  exact fun v hv => hsc v (List.mem_of_mem_drop (List.mem_of_mem_take hv))
                · simp only [obj, hl] at hb
                  have := loadCells_ok (P := P) hb off ti.size (by simp; omega)
                  simp only [execOp, ho, h1, conc, Instr.loadAt, Instr.sureAddr, loadVar, Sem.run_bind, Sem.run_pure, Result.andThen_ok, run_isAgg hu, ha, if_true, sizeOf, typeInfo, run_program, hi, this]
                  simp [concA, concL_eq, List.map_drop, List.map_take]
                  rw [List.drop_append_of_le_length (by simp; omega), List.take_append_of_le_length (by simp; omega)]
            · simp at h
          | false =>
            simp only [ha, cond] at h
            split at h
            · rename_i l hc
              simp only [get_ofOpt] at h
              cases ht : nth l off with
              | none => simp [ht] at h
              | some r =>
                simp [ht] at h
                subst h
                rw [nth_eq] at ht
                have hl : b.c.list = l := by rw [hc]; rfl
                rw [hl] at hsc
                rw [scL_iff] at hsc
                refine DoOk.ofVal (hsc r (List.mem_of_getElem? ht)) ?_
                simp only [obj, hl] at hb
                have hlt : off < l.length := (List.getElem?_eq_some_iff.1 ht).1
                have := load_one (P := P) hb off (v := conc ρ r) (by rw [List.getElem?_append_left (by simpa using hlt)]; simp [concL_eq, ht])
                simp only [execOp, ho, h1, conc, Instr.loadAt, Instr.sureAddr, loadVar, Sem.run_bind, Sem.run_pure, Result.andThen_ok, run_isAgg hu, ha, Bool.false_eq_true, if_false, this]
                try simp
            · rename_i k ws hc
              simp only [Tree.get_br] at h
              by_cases hlt : off < ws.length
              · simp [hlt] at h
                subst h
                refine DoOk.ofVal (by simp [sc]) ?_
                have hl : b.c.list = ws.map (.int k) := by rw [hc]; rfl
                simp only [obj, hl] at hb
                have := load_one (P := P) hb off (v := .int k ws[off]) (by rw [List.getElem?_append_left (by simpa using hlt)]; simp [concL_eq, hlt, conc])
                simp only [execOp, ho, h1, conc, Instr.loadAt, Instr.sureAddr, loadVar, Sem.run_bind, Sem.run_pure, Result.andThen_ok, run_isAgg hu, ha, Bool.false_eq_true, if_false, this]
                try simp
              · simp [hlt] at h
    · simp at h
end
end Go.Proofs.Ytbgdhahdihbpaaa.Ev
end

section
namespace Go.Proofs.Ytbgdhahdihbpaaa.Ev
set_option linter.unusedVariables false
set_option linter.unusedSimpArgs false
section
variable {P : Program} {K : Nat → Prop} {ρ : Val} {H : Heap} {w : World} {id : Nat} {e : Operand → Option Value} {act : Operand → Value} {o : Oper} {eff : Eff}

theorem leaf_ne {α β : Type} {t : Tree α} {k : α → Tree β} {b : β} (h : (t.bind k).get = some b) : ∃ a, t.get = some a ∧ (k a).get = some b := by
  rw [Tree.get_bind] at h
  cases ha : t.get with
  | none => simp [ha] at h
  | some a => exact ⟨a, rfl, by simpa [ha] using h⟩
theorem opt_ne {α β : Type} {o : Option α} {k : α → Tree β} {b : β} (h : (ofOpt o k).get = some b) : ∃ a, o = some a ∧ (k a).get = some b := by
  rw [get_ofOpt] at h
  cases o with
  | none => simp at h
  | some a => exact ⟨a, rfl, by simpa using h⟩
theorem cond_ne {β : Type} {c : Bool} {t : Tree β} {b : β} (h : (cond c t .bad).get = some b) : c = true ∧ t.get = some b := by
  cases c with
  | true => exact ⟨rfl, h⟩
  | false => simp at h
theorem br_ne {β : Type} {p : Prop} [Decidable p] {t : Tree β} {b : β} (h : (Tree.br (decide p) t .bad).get = some b) : p ∧ t.get = some b := by
  rw [Tree.get_br] at h
  by_cases hp : p
  · exact ⟨hp, by simpa [hp] using h⟩
  · simp [hp] at h

theorem toInts_ok {k : IntKind} : ∀ {l : List Value} {r : List Int}, toInts k l = some r → l = r.map (.int k)
  | [], r, h => by simp [toInts] at h; subst h; rfl
  | v :: l, r, h => by
    unfold toInts at h
    split at h
    · rename_i h'; cases h'
    · rename_i k' n l' heq
      cases heq
      rw [Bool.cond_eq_ite] at h
      split at h
      · rename_i hk
        cases hr : toInts k l with
        | none => simp [hr] at h
        | some q =>
          simp [hr] at h
          subst h
          simp at hk
          subst hk
          rw [toInts_ok hr]
          rfl
      · cases h
    · cases h
theorem cutC_ok {c d : Cells} {off n : Nat} (h : (cutC c off n).get = some d) : off + n ≤ c.list.length ∧ d.list = (c.list.drop off).take n := by
  cases c with
  | vals l =>
    simp only [cutC] at h
    obtain ⟨r, hr, h⟩ := opt_ne h
    simp at h
    subst h
    obtain ⟨h1, h2⟩ := takeAt_eq _ _ _ _ hr
    exact ⟨h2, h1⟩
  | ints k ws =>
    simp only [cutC] at h
    obtain ⟨hp, h⟩ := br_ne h
    simp at h
    subst h
    simp [Cells.list, hp, List.map_take, List.map_drop]
theorem layC_ok {c d y : Cells} {off : Nat} (h : (layC c off d).get = some y) : off + d.list.length ≤ c.list.length ∧ y.list = c.list.take off ++ d.list ++ c.list.drop (off + d.list.length) ∧ ∀ v ∈ d.list, v.oneCell' = true := by
  have ints : ∀ {k : IntKind} {ws r : List Int} {y : Cells}, (Tree.br (decide (off + r.length ≤ ws.length)) (.leaf (Cells.ints k (ws.take off ++ r ++ ws.drop (off + r.length)))) .bad).get = some y →
      off + (r.map (Value.int k)).length ≤ (ws.map (Value.int k)).length ∧ y.list = (ws.map (Value.int k)).take off ++ r.map (Value.int k) ++ (ws.map (Value.int k)).drop (off + (r.map (Value.int k)).length) ∧ ∀ v ∈ r.map (Value.int k), v.oneCell' = true := by
    intro k ws r y h
    obtain ⟨hp, h⟩ := br_ne h
    simp at h
    subst h
    refine ⟨by simpa using hp, by simp [Cells.list, List.map_take, List.map_drop], ?_⟩
    intro v hv
    obtain ⟨_, _, rfl⟩ := List.mem_map.1 hv
    rfl
  cases c with
  | vals l =>
    cases d with
    | ints k r => simp [layC] at h
    | vals r =>
      simp only [layC] at h
      obtain ⟨h1, h⟩ := cond_ne h
      obtain ⟨q, hq, h⟩ := opt_ne h
      simp at h
      subst h
      obtain ⟨a1, a2⟩ := putAt_eq _ _ _ _ hq
      refine ⟨a2, a1, ?_⟩
      have : ∀ {l : List Value}, oneCells l = true → ∀ v ∈ l, v.oneCell' = true := by
        intro l
        induction l with
        | nil => simp
        | cons v l ih => intro h u hu; simp [oneCells] at h; simp at hu; rcases hu with rfl | hu; exact h.1; exact ih h.2 u hu
      exact this h1
  | ints k ws =>
    cases d with
    | ints k' r =>
      simp only [layC] at h
      obtain ⟨h1, h⟩ := cond_ne h
      simp at h1
      subst h1
      exact ints h
    | vals r =>
      simp only [layC] at h
      obtain ⟨q, hq, h2⟩ := opt_ne h
      have := toInts_ok hq
      subst this
      exact ints h2
theorem addC_ok {c d y : Cells} (h : (addC c d).get = some y) : y.list = c.list ++ d.list ∧ ∀ v ∈ d.list, v.oneCell' = true := by
  have one : ∀ {k : IntKind} {r : List Int}, ∀ v ∈ r.map (Value.int k), v.oneCell' = true := by
    intro k r v hv
    obtain ⟨_, _, rfl⟩ := List.mem_map.1 hv
    rfl
  cases c with
  | vals l =>
    cases d with
    | ints k r => simp [addC] at h
    | vals r =>
      simp only [addC] at h
      obtain ⟨h1, h⟩ := cond_ne h
      simp at h
      subst h
      refine ⟨rfl, ?_⟩
      have : ∀ {l : List Value}, oneCells l = true → ∀ v ∈ l, v.oneCell' = true := by
        intro l
        induction l with
        | nil => simp
        | cons v l ih => intro h u hu; simp [oneCells] at h; simp at hu; rcases hu with rfl | hu; exact h.1; exact ih h.2 u hu
      exact this h1
  | ints k ws =>
    cases d with
    | ints k' r =>
      simp only [addC] at h
      obtain ⟨h1, h⟩ := cond_ne h
      simp at h1
      subst h1
      simp at h
      subst h
      exact ⟨by simp [Cells.list], one⟩
    | vals r =>
      simp only [addC] at h
      obtain ⟨q, hq, h⟩ := opt_ne h
      simp at h
      subst h
      have := toInts_ok hq
      subst this
      exact ⟨by simp [Cells.list], one⟩
theorem lenC_list (c : Cells) : lenC c = c.list.length := by cases c <;> simp [lenC, Cells.list]
theorem one_conc' (v : Value) : (conc ρ v).oneCell' = v.oneCell' := by
  cases v with
  | pointer a => cases a <;> simp [conc, Value.oneCell']
  | slice a l c => cases a <;> simp [conc, Value.oneCell']
  | map a => cases a <;> simp [conc, Value.oneCell']
  | _ => simp [conc, Value.oneCell']

/-- The cells of a slice, where they lie in a world. -/
theorem src_cells {j off n : Nat} {b : Blk} {d : Cells} {ex : List Value} (hb : w.heap[ρ.blk j]? = some (obj ρ b ex)) (h : (cutC b.c off n).get = some d) (i : Nat) (v : Value) (hv : (concL ρ d.list)[i]? = some v) :
    w.cell? ((⟨ρ.blk j, off, none⟩ : Addr).add i) = some v := by
  obtain ⟨h1, h2⟩ := cutC_ok h
  rw [add_at, cell_of_row w (ρ.blk j) (off + i) _ b.t (0, 0) hb]
  rw [h2, concL_eq, List.map_take, List.map_drop, List.getElem?_take] at hv
  split at hv
  · rename_i hlt
    rw [List.getElem?_drop] at hv
    simp only [List.getElem?_toArray]
    rw [List.getElem?_append_left (by simp; omega), concL_eq]
    exact hv
  · cases hv
theorem setRow_eq {b : Nat} {cs : Array Value} {t : TypeId} {new : Array Value} (hb : w.heap[b]? = some (.cells cs t (0, 0))) : w.setRow b new = { w with heap := w.heap.setIfInBounds b (.cells new t (0, 0)) } := by
  unfold World.setRow
  congr 1
  apply Array.ext_getElem?
  intro k
  have hlt : b < w.heap.size := (Array.getElem?_eq_some_iff.1 hb).1
  have hv : w.heap[b] = .cells cs t (0, 0) := (Array.getElem?_eq_some_iff.1 hb).2
  simp only [Array.getElem?_modify, Array.getElem?_setIfInBounds]
  by_cases hk : b = k
  · subst hk
    simp [hlt, hv]
  · simp [hk]

theorem ok_copy {args : Array Operand} {ts : Array TypeId} {d s : Value} {t : TypeId} {tl : List TypeId} (ho : o.op = .call { callee := .builtin .copy, args, argTypes := ts }) (hargs : args.map act = #[conc ρ d, conc ρ s]) (hts : ts.toList = t :: tl) (hr : Reps P K ρ H w)
    (hd : sc K d) (hs : sc K s) (h : (doCopy P H.get t d s).get = some eff) : DoOk P K ρ H w id eff ((execOp act o).run P w) := by
  obtain ⟨lt⟩ := ts
  simp at hts
  subst hts
  unfold doCopy at h
  split at h
  · rename_i el i off dl cd j off2 sl cs hu
    cases hi : P.info? el with
    | none => simp [hi] at h
    | some ti =>
      simp only [hi] at h
      obtain ⟨b, hb, h⟩ := opt_ne h
      obtain ⟨c, hc, h⟩ := opt_ne h
      obtain ⟨x, hx, h⟩ := leaf_ne h
      obtain ⟨y, hy, h⟩ := leaf_ne h
      simp at h
      subst h
      obtain ⟨ex, b1, b2⟩ := hr.blk i b hb
      obtain ⟨ex2, c1, c2⟩ := hr.blk j c hc
      obtain ⟨x1, x2⟩ := cutC_ok hx
      obtain ⟨y1, y2, y3⟩ := layC_ok hy
      have hxl : x.list.length = Nat.min sl dl * ti.size := by rw [x2]; simp; omega
      have e1 : (⟨ρ.blk i, off, none⟩ : Addr) = (⟨ρ.blk i, off, none⟩ : Addr) := rfl
      have load : (Builtin.firstCells ti.size (Nat.min sl dl) (.slice (some ⟨ρ.blk j, off2, none⟩) sl (cs + ρ.room j))).run P w = .ok (concL ρ x.list).toArray w :=
        run_firstCells_some w ti.size (Nat.min sl dl) ⟨ρ.blk j, off2, none⟩ sl (cs + ρ.room j) (concL ρ x.list) (by simp [hxl]) (fun q v hv => src_cells c1 hx q v hv)
      have store : (storeCells ⟨ρ.blk i, off, none⟩ (concL ρ x.list)).run P w = .ok () { w with heap := w.heap.setIfInBounds (ρ.blk i) (obj ρ ⟨b.t, y⟩ ex) } := by
        have := run_storeCells_at P (ρ.blk i) off b.t (concL ρ x.list) 0 ⟨concL ρ b.c.list ++ ex⟩ w b1 (by simp; omega) (fun v hv => by
          simp only [concL_eq, List.mem_map] at hv
          obtain ⟨v', hv', rfl⟩ := hv
          rw [one_conc']
          exact y3 v' hv')
        rw [this, setRow_eq b1]
        simp only [obj, y2]
        congr 4
        simp only [concL_eq, List.map_append, List.map_take, List.map_drop, List.length_map, Nat.add_zero]
        rw [List.take_append_of_le_length (by simp; omega), List.drop_append_of_le_length (by simp; omega)]
        simp
      refine ⟨ρ, _, _, ?_, .inl rfl, by simp [Eff.v, sc], b, ex, hb, b2, ?_, rfl, rfl⟩
      · simp only [execOp, ho, resolve, Sem.run_bind, Sem.run_pure, Result.andThen_ok, invoke, Go.builtin, hargs, conc]
        simp only [Builtin.copy_, List.getElem?_toArray, List.getElem?_cons_zero, List.getElem?_cons_succ, Sem.run_bind, run_underlying hu, Result.andThen_ok, Builtin.lenOf, Sem.run_pure, sizeOf, typeInfo, run_program, hi, load, store]
        simp [Eff.v, conc, goInt]
      · have hk1 := scL_iff.1 (hr.known i b hb).2
        have hk2 := scL_iff.1 (hr.known j c hc).2
        rw [scL_iff]
        intro z hz
        simp only [y2, List.mem_append] at hz
        rcases hz with (hz | hz) | hz
        · exact hk1 z (List.mem_of_mem_take hz)
        · rw [x2] at hz
          exact hk2 z (List.mem_of_mem_drop (List.mem_of_mem_take hz))
        · exact hk1 z (List.mem_of_mem_drop hz)
  · simp at h

theorem noCells_nil (el : TypeId) : (noCells P el).list = [] := by
  unfold noCells
  split <;> rfl
theorem zero_cells {z : Array Value} {n : Nat} : (Builtin.zeroCells z n).size = n * z.size := by simp [Builtin.zeroCells]
theorem grown_le {w : World} {need old : Nat} {e : TypeId} : need ≤ grownCap w need old e := by
  simp only [grownCap, Question.cut]
  omega

theorem stay_ok {t el : TypeId} {ti : TypeInfo} {s x : Value} {ty : TypeId} (hu : P.underlying t = some (.slice el)) (hi : P.info? el = some ti) (h : (stayC s).get = some eff) (hs : sc K s) {ax : Option Addr} {cx : Nat} (hx : x = .slice ax 0 cx) :
    ∃ v, eff = .val v ∧ sc K v ∧ (Builtin.append_ #[t, t] ty #[conc ρ s, conc ρ x]).run P w = .ok (conc ρ v) w := by
  subst hx
  have hx0 : ∃ p c', conc ρ (.slice ax 0 cx) = .slice p 0 c' ∧ (∀ size, (Builtin.firstCells size 0 (.slice p 0 c')).run P w = .ok #[] w) := by
    cases ax with
    | none => exact ⟨none, cx, by simp [conc], fun size => run_firstCells_none w size 0 0 cx⟩
    | some a => exact ⟨some { a with block := ρ.blk a.block }, cx + ρ.room a.block, by simp [conc], fun size => run_firstCells_some w size 0 _ 0 _ [] (by simp) (by simp)⟩
  obtain ⟨p, c', hp, hfc⟩ := hx0
  rw [hp]
  unfold stayC at h
  split at h
  · rename_i n c
    obtain ⟨hle, hh⟩ := br_ne h
    simp at hh
    refine ⟨_, hh.symm, hs, ?_⟩
    simp [conc, Builtin.append_, run_underlying hu, sizeOf, typeInfo, hi, Builtin.lenOf, hle, hfc]
  · rename_i i off n c
    obtain ⟨hle, hh⟩ := br_ne h
    simp at hh
    refine ⟨_, hh.symm, hs, ?_⟩
    have hle' : n ≤ c + ρ.room i := by omega
    simp [conc, Builtin.append_, run_underlying hu, sizeOf, typeInfo, hi, Builtin.lenOf, hle', hfc, storeCells]
  · simp at h

theorem grow_ok {t el ty : TypeId} {ti : TypeInfo} {z s : Value} {m j off cx : Nat} {bj : Blk} {d : Cells} {exj : List Value} (hr : Reps P K ρ H w) (hid : ¬ K id) (hu : P.underlying t = some (.slice el)) (hi : P.info? el = some ti) (hz : ti.zero = some z) (hzs : z.cells.size = ti.size)
    (hm : m ≠ 0) (hbj : H.get j = some bj) (j1 : w.heap[ρ.blk j]? = some (obj ρ bj exj)) (hd : (cutC bj.c off (m * ti.size)).get = some d) (h : (growC P H.get id el ti s d m).get = some eff) :
    ∃ ρ' w', (Builtin.append_ #[t, t] ty #[conc ρ s, .slice (some ⟨ρ.blk j, off, none⟩) m (cx + ρ.room j)]).run P w = .ok (conc ρ' eff.v) w' ∧ sc (also K id) eff.v ∧ Does P K ρ H w id ρ' w' eff := by
  have hcell : cellsOf P el = ti.size := by simp [cellsOf, hi]
  obtain ⟨d1, d2⟩ := cutC_ok hd
  have hdl : (concL ρ d.list).length = m * ti.size := by rw [d2]; simp; omega
  have news := fun q v hv => src_cells (w := w) (ρ := ρ) j1 hd q v hv
  have scd : scL K d.list := by
    have := scL_iff.1 (hr.known j bj hbj).2
    rw [scL_iff, d2]
    exact fun v hv => this v (List.mem_of_mem_drop (List.mem_of_mem_take hv))
  unfold growC at h
  split at h
  · obtain ⟨⟨c1, c2⟩, h1⟩ := br_ne h
    obtain ⟨y, hy, h2⟩ := leaf_ne h1
    simp at h2
    subst h2
    obtain ⟨y1, y2⟩ := addC_ok hy
    rw [noCells_nil, List.nil_append] at y1
    have run := run_append_nil w t ty el ti z hu hi hz ⟨ρ.blk j, off, none⟩ m (cx + ρ.room j) (concL ρ d.list) hdl news (by omega) (by omega) (by omega)
    have hle := grown_le (w := w) (need := m) (old := 0) (e := el)
    refine ⟨ρ.put id w.heap.size (grownCap w m 0 el - m), _, ?_, by simp [Eff.v, sc, also], .inl ⟨grownCap w m 0 el - m, w.drawn + 1, (Builtin.zeroCells z.cells (grownCap w m 0 el - m)).toList, ?_, by rw [y1]; exact scd, rfl, rfl⟩⟩
    · have hc : conc ρ (.slice none 0 0) = .slice none 0 0 := by simp [conc]
      rw [hc, run]
      have hv : conc (ρ.put id w.heap.size (grownCap w m 0 el - m)) (.slice (some ⟨id, 0, none⟩) m m) = .slice (some ⟨w.heap.size, 0, none⟩) m (grownCap w m 0 el) := by
        simp [conc, Val.put]
        omega
      have hl : ((concL ρ d.list).toArray ++ Builtin.zeroCells z.cells (grownCap w m 0 el - m)) = ⟨concL ρ d.list ++ (Builtin.zeroCells z.cells (grownCap w m 0 el - m)).toList⟩ := by
        apply Array.ext'
        simp
      simp only [Eff.v, hv, World.alloc, World.drew, obj, y1, hl]
    · simp only [Array.length_toList, zero_cells, hzs, hcell]
  · rename_i i n c
    obtain ⟨b, hb, h1⟩ := opt_ne h
    obtain ⟨hbt, h2⟩ := cond_ne h1
    have hbt : b.t = el := by simpa using hbt
    obtain ⟨⟨c0, c1, c2, c3⟩, h3⟩ := br_ne h2
    clear h h1 h2
    subst c0
    obtain ⟨y, hy, h4⟩ := leaf_ne h3
    simp at h4
    subst h4
    obtain ⟨y1, y2⟩ := addC_ok hy
    obtain ⟨ex, b1, b2⟩ := hr.blk i b hb
    have scb := (hr.known i b hb).2
    have scy : scL K y.list := by
      rw [y1, scL_iff]
      intro v hv
      simp only [List.mem_append] at hv
      rcases hv with hv | hv
      · exact (scL_iff.1 scb) v hv
      · exact (scL_iff.1 scd) v hv
    rw [lenC_list] at c1
    rw [hbt, hcell] at b2
    have hc : conc ρ (.slice (some ⟨i, 0, none⟩) c c) = .slice (some ⟨ρ.blk i, 0, none⟩) c (c + ρ.room i) := by simp [conc]
    rw [hc]
    have b1' : w.heap[ρ.blk i]? = some (.cells ⟨concL ρ b.c.list ++ ex⟩ el (0, 0)) := by rw [← hbt]; exact b1
    by_cases hroom : c + m ≤ c + ρ.room i
    · have hmr : m * ti.size ≤ ρ.room i * ti.size := Nat.mul_le_mul_right _ (by omega)
      have run := run_append_room w t ty el ti hu hi (ρ.blk i) c (c + ρ.room i) ⟨concL ρ b.c.list ++ ex⟩ (by rw [← hbt]; exact b1) ⟨ρ.blk j, off, none⟩ m (cx + ρ.room j) (concL ρ d.list) hdl news
        (fun v hv => by
          simp only [concL_eq, List.mem_map] at hv
          obtain ⟨v', hv', rfl⟩ := hv
          rw [one_conc']
          exact y2 v' hv') hroom (by rw [hdl]; simp [c1, b2]; omega)
      refine ⟨ρ.put id (ρ.blk i) (ρ.room i - m), _, ?_, by simp [Eff.v, sc, also], .inr ⟨i, b, ρ.room i - m, ex.drop (m * ti.size), rfl, hb, ?_, scy, rfl, rfl⟩⟩
      · rw [run, setRow_eq b1']
        have hv : conc (ρ.put id (ρ.blk i) (ρ.room i - m)) (.slice (some ⟨id, 0, none⟩) (c + m) (c + m)) = .slice (some ⟨ρ.blk i, 0, none⟩) (c + m) (c + ρ.room i) := by
          simp [conc, Val.put]
          omega
        have hl : (List.take (c * ti.size) (⟨concL ρ b.c.list ++ ex⟩ : Array Value).toList ++ concL ρ d.list ++ List.drop (c * ti.size + (concL ρ d.list).length) (⟨concL ρ b.c.list ++ ex⟩ : Array Value).toList).toArray = ⟨concL ρ y.list ++ ex.drop (m * ti.size)⟩ := by
          rw [hdl, y1]
          congr 1
          simp only [concL_eq, List.map_append]
          rw [List.take_append_of_le_length (by simp [c1]), List.take_of_length_le (by simp [c1])]
          rw [List.drop_append, List.drop_eq_nil_of_le (by simp [c1]), List.nil_append]
          simp only [List.length_map, c1]
          rw [show c * ti.size + m * ti.size - c * ti.size = m * ti.size by omega]
        simp only [Eff.v, hv, obj, hl]
      · simp only [List.length_drop, b2, hcell]
        rw [Nat.sub_mul]
    · have hg : c + ρ.room i < c + m := by omega
      have fit := growslice_fits hg c2
      have run := run_append_grow w t ty el ti z hu hi hz ⟨ρ.blk i, 0, none⟩ c (c + ρ.room i) (concL ρ b.c.list) (by simp [c1]) (fun q v hv => by
          rw [add_at, cell_of_row w (ρ.blk i) (0 + q) _ b.t (0, 0) b1]
          have hq : q < (concL ρ b.c.list).length := (List.getElem?_eq_some_iff.1 hv).1
          simp only [List.getElem?_toArray, Nat.zero_add]
          rw [List.getElem?_append_left hq]
          exact hv) ⟨ρ.blk j, off, none⟩ m (cx + ρ.room j) (concL ρ d.list) hdl news hg (by omega) fit
      have hle := grown_le (w := w) (need := c + m) (old := c + ρ.room i) (e := el)
      refine ⟨ρ.put id w.heap.size (grownCap w (c + m) (c + ρ.room i) el - (c + m)), _, ?_, by simp [Eff.v, sc, also], .inl ⟨grownCap w (c + m) (c + ρ.room i) el - (c + m), w.drawn + 1, (Builtin.zeroCells z.cells (grownCap w (c + m) (c + ρ.room i) el - (c + m))).toList, ?_, scy, rfl, rfl⟩⟩
      · rw [run]
        have hv : conc (ρ.put id w.heap.size (grownCap w (c + m) (c + ρ.room i) el - (c + m))) (.slice (some ⟨id, 0, none⟩) (c + m) (c + m)) = .slice (some ⟨w.heap.size, 0, none⟩) (c + m) (grownCap w (c + m) (c + ρ.room i) el) := by
          simp [conc, Val.put]
          omega
        have hl : ((concL ρ b.c.list).toArray ++ (concL ρ d.list).toArray ++ Builtin.zeroCells z.cells (grownCap w (c + m) (c + ρ.room i) el - (c + m))) = ⟨concL ρ y.list ++ (Builtin.zeroCells z.cells (grownCap w (c + m) (c + ρ.room i) el - (c + m))).toList⟩ := by
          apply Array.ext'
          simp [y1, concL_eq]
        simp only [Eff.v, hv, World.alloc, World.drew, obj, hl]
      · simp only [Array.length_toList, zero_cells, hzs, hcell]
  · simp at h

theorem ok_append {args : Array Operand} {s x : Value} {t : TypeId} (ho : o.op = .call { callee := .builtin .append, args, argTypes := #[t, t] }) (hargs : args.map act = #[conc ρ s, conc ρ x]) (hr : Reps P K ρ H w) (hid : ¬ K id)
    (hs : sc K s) (h : (doAppend P H.get id t s x).get = some eff) : DoOk P K ρ H w id eff ((execOp act o).run P w) := by
  have exec : ∀ {r : Value} {w' : World}, (Builtin.append_ #[t, t] o.type #[conc ρ s, conc ρ x]).run P w = .ok r w' → (execOp act o).run P w = .ok (.value r) w' := by
    intro r w' h
    simp only [execOp, ho, resolve, Sem.run_bind, Sem.run_pure, Result.andThen_ok, invoke, Go.builtin, hargs, h]
  unfold doAppend at h
  split at h
  · rename_i el ax m cx hu
    cases hi : P.info? el with
    | none => simp [hi] at h
    | some ti =>
      simp only [hi] at h
      cases hz : ti.zero with
      | none => simp [hz] at h
      | some z =>
        simp only [hz] at h
        obtain ⟨hzs, h1⟩ := cond_ne h
        have hzs : z.cells.size = ti.size := by simpa using hzs
        simp only [Tree.get_br] at h1
        by_cases hm : m = 0
        · subst hm
          simp only [decide_true, if_true] at h1
          obtain ⟨v, rfl, hv, run⟩ := stay_ok (K := K) (ρ := ρ) (w := w) (ty := o.type) (ax := ax) (cx := cx) (x := .slice ax 0 cx) hu hi h1 hs rfl
          exact DoOk.ofVal hv (exec run)
        · simp only [hm, decide_false, Bool.false_eq_true, if_false] at h1
          obtain ⟨d, hd, h2⟩ := leaf_ne h1
          unfold srcC at hd
          split at hd
          · rename_i j off m' cx' heq
            cases heq
            obtain ⟨bj, hbj, hd2⟩ := opt_ne hd
            obtain ⟨exj, j1, j2⟩ := hr.blk j bj hbj
            obtain ⟨ρ', w', run, hsc, hdo⟩ := grow_ok (s := s) (cx := cx) (ty := o.type) hr hid hu hi hz hzs hm hbj j1 hd2 h2
            refine ⟨ρ', w', _, exec ?_, .inl rfl, hsc, hdo⟩
            have hc : conc ρ (.slice (some ⟨j, off, none⟩) m cx) = .slice (some ⟨ρ.blk j, off, none⟩) m (cx + ρ.room j) := by simp [conc]
            rw [hc]
            exact run
          · simp at hd
  · simp at h
end
end Go.Proofs.Ytbgdhahdihbpaaa.Ev
end

section
namespace Go.Proofs.Ytbgdhahdihbpaaa.Ev
set_option linter.unusedVariables false
set_option linter.unusedSimpArgs false
section
variable {P : Program} {K : Nat → Prop} {ρ : Val} {H : Heap} {w : World} {id : Nat} {e : Operand → Option Value} {act : Operand → Value} {o : Oper} {eff : Eff}

theorem oneCells_iff {l : List Value} : oneCells l = true ↔ ∀ v ∈ l, v.oneCell' = true := by
  induction l with
  | nil => simp [oneCells]
  | cons v l ih => simp [oneCells, ih]
theorem one_conc (v : Value) : (conc ρ v).oneCell' = v.oneCell' := by
  cases v with
  | pointer a => cases a <;> simp [conc, Value.oneCell']
  | slice a l c => cases a <;> simp [conc, Value.oneCell']
  | map a => cases a <;> simp [conc, Value.oneCell']
  | _ => simp [conc, Value.oneCell']
theorem setCell_row {b off : Nat} {cs : List Value} {t : TypeId} {v : Value} (hb : w.heap[b]? = some (.cells ⟨cs⟩ t (0, 0))) :
    w.setCell ⟨b, off, none⟩ v = { w with heap := w.heap.setIfInBounds b (.cells ⟨cs.set off v⟩ t (0, 0)) } := by
  unfold World.setCell
  congr 1
  apply Array.ext_getElem?
  intro k
  have hlt : b < w.heap.size := (Array.getElem?_eq_some_iff.1 hb).1
  simp only [Array.getElem?_modify, Array.getElem?_setIfInBounds]
  by_cases hk : b = k
  · subst hk
    have hv : w.heap[b] = .cells ⟨cs⟩ t (0, 0) := (Array.getElem?_eq_some_iff.1 hb).2
    simp [hlt, hv]
  · simp [hk]
theorem storeCells_ok {b : Nat} {t : TypeId} {off : Nat} : ∀ (vs : List Value) (i : Nat) (cs : List Value) (w : World), w.heap[b]? = some (.cells ⟨cs⟩ t (0, 0)) → off + i + vs.length ≤ cs.length → (∀ v ∈ vs, v.oneCell' = true) →
    (storeCells ⟨b, off, none⟩ vs i).run P w = .ok () { w with heap := w.heap.setIfInBounds b (.cells ⟨cs.take (off + i) ++ vs ++ cs.drop (off + i + vs.length)⟩ t (0, 0)) }
  | [], i, cs, w, hb, hl, _ => by
    simp only [storeCells, List.append_nil, List.length_nil, Nat.add_zero, List.take_append_drop]
    show Result.ok () w = _
    have hlt : b < w.heap.size := (Array.getElem?_eq_some_iff.1 hb).1
    have hv : w.heap[b] = .cells ⟨cs⟩ t (0, 0) := (Array.getElem?_eq_some_iff.1 hb).2
    have key : w.heap.setIfInBounds b (.cells ⟨cs⟩ t (0, 0)) = w.heap := by
      apply Array.ext_getElem?
      intro k
      simp only [Array.getElem?_setIfInBounds]
      by_cases hk : b = k
      · subst hk
        simp [hlt, hv]
      · simp [hk]
    rw [key]
  | v :: vs, i, cs, w, hb, hl, h1 => by
    simp only [List.length_cons] at hl
    have hi : off + i < cs.length := by omega
    have hcell : w.cell? ⟨b, off + i, none⟩ = some cs[off + i] := by simp [World.cell?, hb, hi]
    have hfro : w.frozen? ⟨b, off + i, none⟩ = false := by simp [World.frozen?, hb]
    have hst : (store ((⟨b, off, none⟩ : Addr).add i) v).run P w = .ok () (w.setCell ⟨b, off + i, none⟩ v) := by
      rw [add_at, run_store P w _ v _ (h1 v (by simp)), hcell]
      simp [hfro]
    have hlt : b < w.heap.size := (Array.getElem?_eq_some_iff.1 hb).1
    have hb' : (w.setCell ⟨b, off + i, none⟩ v).heap[b]? = some (.cells ⟨cs.set (off + i) v⟩ t (0, 0)) := by
      rw [setCell_row hb]
      simp [hlt]
    have ih := storeCells_ok (off := off) vs (i + 1) (cs.set (off + i) v) (w.setCell ⟨b, off + i, none⟩ v) hb' (by simp; omega) (fun u hu => h1 u (by simp [hu]))
    simp only [storeCells, Sem.run_bind, hst, Result.andThen_ok, ih]
    rw [setCell_row hb]
    simp only [Array.setIfInBounds_setIfInBounds]
    have key : (cs.set (off + i) v).take (off + (i + 1)) ++ vs ++ (cs.set (off + i) v).drop (off + (i + 1) + vs.length) = cs.take (off + i) ++ (v :: vs) ++ cs.drop (off + i + (v :: vs).length) := by
      rw [List.take_set, List.drop_set_of_lt (by omega)]
      rw [show off + (i + 1) = off + i + 1 by omega, List.take_add_one, List.getElem?_eq_getElem hi, Option.toList_some]
      rw [List.set_append_right _ _ (by simp; omega)]
      rw [show off + i - (cs.take (off + i)).length = 0 by simp; omega]
      simp only [List.set_cons_zero, List.append_assoc, List.cons_append, List.nil_append, List.length_cons]
      rw [show off + i + 1 + vs.length = off + i + (vs.length + 1) by omega]
    rw [key]

theorem ok_store {t : TypeId} {x y : Operand} (ho : o.op = .store t x y) (he : EOk K ρ e act) (hr : Reps P K ρ H w) (h : (dop P o.op e H.get id).get = some eff) : DoOk P K ρ H w id eff ((execOp act o).run P w) := by
  rw [ho] at h
  simp only [dop, doStore, get_ofOpt] at h
  cases hx : e x with
  | none => simp [hx] at h
  | some v =>
  cases hy : e y with
  | none => simp [hx, hy] at h
  | some u =>
    simp only [hx, hy, Option.bind_some] at h
    obtain ⟨h1, h2⟩ := he x v hx
    obtain ⟨u1, u2⟩ := he y u hy
    split at h
    · rename_i i off
      simp only [get_ofOpt] at h
      cases hg : H.get i with
      | none => simp [hg] at h
      | some b =>
        simp only [hg, Option.bind_some] at h
        obtain ⟨ex, hb, hex⟩ := hr.blk i b hg
        obtain ⟨hk, hsc⟩ := hr.known i b hg
        cases hi : P.info? t with
        | none => simp [hi] at h
        | some ti =>
          simp only [hi] at h
          split at h
          · rename_i l hc
            rw [Bool.cond_eq_ite] at h
            split at h
            case isFalse => simp at h
            case isTrue hp =>
            simp only [Bool.and_eq_true, beq_iff_eq] at hp
            obtain ⟨hsz, hone⟩ := hp
            simp only [get_ofOpt] at h
            cases hpt : putAt l off u.cells.toList with
            | none => simp [hpt] at h
            | some r =>
              simp [hpt] at h
              subst h
              obtain ⟨r1, r2⟩ := putAt_eq _ _ _ _ hpt
              have hl : b.c.list = l := by rw [hc]; rfl
              have husz : (conc ρ u).cells.size = ti.size := by rw [cells_concA]; simp [hsz]
              have hlen : u.cells.toList.length = ti.size := by simp [hsz]
              refine ⟨ρ, _, .skip, ?_, .inr ⟨rfl, rfl⟩, by simp [Eff.v, undef, sc, scA, scL], b, ex, hg, hex, ?_, rfl, rfl⟩
              · simp only [obj, hl] at hb
                have run := storeCells_ok (P := P) (off := off) (concL ρ u.cells.toList) 0 (concL ρ l ++ ex) w hb (by simp at r2 ⊢; omega) (fun v hv => by
                  simp only [concL_eq, List.mem_map] at hv
                  obtain ⟨v', hv', rfl⟩ := hv
                  rw [one_conc]
                  exact oneCells_iff.1 hone v' hv')
                simp only [execOp, ho, h1, u1, conc, Instr.storeAt, Instr.sureAddr, storeVar, Sem.run_bind, Sem.run_pure, Result.andThen_ok, sizeOf, typeInfo, run_program, hi, Sem.run_ite, husz, ne_eq, not_true_eq_false, if_false, cells_conc, run]
                simp only [obj, Cells.list, r1]
                congr 4
                congr 1
                simp only [concL_eq, List.map_append, List.map_take, List.map_drop, List.length_map, Nat.add_zero]
                rw [List.take_append_of_le_length (by simp at r2 ⊢; omega), List.drop_append_of_le_length (by simp at r2 ⊢; omega)]
                simp
              · simp only [Cells.list, r1]
                rw [hl] at hsc
                rw [scL_iff] at hsc ⊢
                have uu := scL_iff.1 (cells_sc u2)
                intro z hz
                simp only [List.mem_append] at hz
                rcases hz with (hz | hz) | hz
                · exact hsc z (List.mem_of_mem_take hz)
                · exact uu z hz
                · exact hsc z (List.mem_of_mem_drop hz)
          · rename_i k ws hc
            split at h
            · rename_i k' n
              rw [Bool.cond_eq_ite] at h
              split at h
              case isFalse => simp at h
              case isTrue hp =>
              simp only [Bool.and_eq_true, beq_iff_eq, decide_eq_true_eq] at hp
              obtain ⟨hsz, rfl⟩ := hp
              simp only [Tree.get_br] at h
              by_cases hlt : off < ws.length
              · simp [hlt] at h
                subst h
                have hl : b.c.list = ws.map (.int k') := by rw [hc]; rfl
                refine ⟨ρ, _, .skip, ?_, .inr ⟨rfl, rfl⟩, by simp [Eff.v, undef, sc, scA, scL], b, ex, hg, hex, ?_, rfl, rfl⟩
                · simp only [obj, hl] at hb
                  have run := storeCells_ok (P := P) (off := off) [.int k' n] 0 (concL ρ (ws.map (.int k')) ++ ex) w hb (by simp; omega) (by simp [Value.oneCell'])
                  simp only [execOp, ho, h1, u1, conc, Instr.storeAt, Instr.sureAddr, storeVar, Sem.run_bind, Sem.run_pure, Result.andThen_ok, sizeOf, typeInfo, run_program, hi, Sem.run_ite, hsz, Value.cells, List.size_toArray, List.length_cons, List.length_nil, Nat.zero_add, ne_eq, not_true_eq_false, if_false, run]
                  simp only [obj, Cells.list]
                  congr 4
                  congr 1
                  simp only [concL_eq, List.map_map, List.length_singleton, Nat.add_zero]
                  rw [List.take_append_of_le_length (by simp; omega), List.drop_append_of_le_length (by simp; omega)]
                  rw [← List.append_assoc]
                  congr 1
                  apply List.ext_getElem?
                  intro j
                  simp only [List.getElem?_append, List.length_take, List.length_map, List.getElem?_take, List.getElem?_map, List.getElem?_set, List.length_append, List.length_singleton, List.getElem?_drop, show min off ws.length = off by omega]
                  by_cases hj : j < off
                  · simp [hj, show j < off + 1 by omega, show off ≠ j by omega, conc]
                  · by_cases hj2 : j = off
                    · subst hj2
                      simp [hlt, conc]
                    · simp [show ¬ j < off + 1 by omega, show off ≠ j by omega, conc]
                      rw [show off + 1 + (j - (off + 1)) = j by omega]
                · simp only [Cells.list]
                  rw [scL_iff]
                  intro z hz
                  obtain ⟨_, _, rfl⟩ := List.mem_map.1 hz
                  simp [sc]
              · simp [hlt] at h
            · simp at h
    · simp at h

theorem made_ints (k : IntKind) (n : Nat) : madeCells #[.int k 0] n = ((List.replicate n (0 : Int)).map (Value.int k)).toArray := by
  apply Array.ext_getElem?
  intro j
  simp only [madeCells]
  by_cases hj : j < n
  · simp [hj, Nat.mod_one]
  · simp [hj]
theorem ok_makeSlice {t : TypeId} {x y : Operand} (ho : o.op = .makeSlice t x y) (he : EOk K ρ e act) (hid : ¬ K id) (h : (dop P o.op e H.get id).get = some eff) : DoOk P K ρ H w id eff ((execOp act o).run P w) := by
  rw [ho] at h
  simp only [dop, doMakeSlice, get_ofOpt] at h
  cases hx : e x with
  | none => simp [hx] at h
  | some v =>
  cases hy : e y with
  | none => simp [hx, hy] at h
  | some u =>
    simp only [hx, hy, Option.bind_some] at h
    obtain ⟨h1, h2⟩ := he x v hx
    obtain ⟨u1, u2⟩ := he y u hy
    split at h
    · rename_i el kl n km m hu
      split at h
      · rename_i k ti hue hi
        rw [Bool.cond_eq_ite] at h
        split at h
        case isFalse => simp at h
        case isTrue hp =>
        simp only [Bool.and_eq_true, beq_iff_eq] at hp
        obtain ⟨hsz, hz⟩ := hp
        cases hzz : ti.zero with
        | none => simp [hzz, zeroInt] at hz
        | some z =>
          have hz' : z = .int k 0 := by
            rw [hzz] at hz
            unfold zeroInt at hz
            split at hz
            · rename_i k' z0 heq
              simp at heq
              simp at hz
              rw [heq, hz.1, hz.2]
            · simp at hz
          subst hz'
          simp only [Tree.get_br] at h
          by_cases hc : 0 ≤ n ∧ n ≤ m ∧ (ti.bytes : Int) * m ≤ 2 ^ 48 ∧ m < 2 ^ 62
          · rw [if_pos (by simpa using hc)] at h
            simp only [Tree.get_leaf, Option.some.injEq] at h
            subst h
            obtain ⟨c1, c2, c3, c4⟩ := hc
            have run := run_make w t el ti (.int k 0) hu hi hzz kl km n m c1 c2 (by omega) (by omega)
            refine ⟨ρ.put id w.heap.size 0, _, _, ?_, .inl rfl, ?_, 0, w.drawn, [], ?_, ?_, rfl, rfl⟩
            · simp only [execOp, ho, h1, u1, conc, Sem.run_bind, run, Result.andThen_ok, Sem.run_pure]
              simp only [Eff.v, conc, Val.put, if_true, Nat.add_zero, obj, Cells.list, List.append_nil, Value.cells, hsz, Nat.mul_one]
              congr 1
              simp only [World.alloc]
              congr 2
              rw [made_ints]
              congr 1
              rw [concL_plain]
              generalize m.toNat = q
              clear run
              induction q with
              | zero => simp [plainL]
              | succ j ih => rw [List.replicate_succ, List.map_cons]; simp only [plainL, plain, ih]; rfl
            · simp [Eff.v, sc, also]
            · simp
            · rw [scL_iff]
              intro z hz
              obtain ⟨_, _, rfl⟩ := List.mem_map.1 hz
              simp [sc]
          · rw [if_neg (by simpa using hc)] at h
            simp at h
      · simp at h
    · simp at h
theorem ok_builtin {b : Builtin} {args : Array Operand} {ts : Array TypeId} (ho : o.op = .call { callee := .builtin b, args, argTypes := ts }) (he : EOk K ρ e act) (hid : ¬ K id) (hr : Reps P K ρ H w) (h : (dop P o.op e H.get id).get = some eff) : DoOk P K ρ H w id eff ((execOp act o).run P w) := by
  rw [ho] at h
  simp only [dop, doBuiltin, get_ofOpt] at h
  cases hm : mapO e args.toList with
  | none => simp [hm] at h
  | some vs =>
    simp only [hm, Option.bind_some] at h
    obtain ⟨m1, m2⟩ := mapO_act he hm
    obtain ⟨la⟩ := args
    simp only at m1
    split at h
    · rename_i p n c t tl hts
      split at h
      · rename_i el hu
        simp at h
        subst h
        refine DoOk.ofVal (by simp [sc]) ?_
        obtain ⟨lt⟩ := ts
        simp at hts
        subst hts
        have hv : concL ρ [Value.slice p n c] = [conc ρ (.slice p n c)] := rfl
        rw [hv] at m1
        cases p <;> simp [execOp, ho, resolve, invoke, Go.builtin, m1, conc, Builtin.len_, run_underlying hu, goInt]
      · simp at h
    · rename_i s t tl hts
      split at h
      · rename_i hu
        simp at h
        subst h
        refine DoOk.ofVal (by simp [sc]) ?_
        obtain ⟨lt⟩ := ts
        simp at hts
        subst hts
        have hv : concL ρ [Value.string s] = [.string s] := by simp [concL, conc]
        rw [hv] at m1
        simp [execOp, ho, resolve, invoke, Go.builtin, m1, conc, Builtin.len_, run_underlying hu, goInt]
      · simp at h
    · rename_i k x k' y
      simp at h
      subst h
      refine DoOk.ofVal (by simp [sc]) ?_
      have hv : concL ρ [Value.int k x, .int k' y] = [.int k x, .int k' y] := by simp [concL, conc]
      rw [hv] at m1
      simp [execOp, ho, resolve, invoke, Go.builtin, m1, conc, Builtin.min_, Builtin.min2]
    · rename_i k x k' y
      simp at h
      subst h
      refine DoOk.ofVal (by simp [sc]) ?_
      have hv : concL ρ [Value.int k x, .int k' y] = [.int k x, .int k' y] := by simp [concL, conc]
      rw [hv] at m1
      simp [execOp, ho, resolve, invoke, Go.builtin, m1, conc, Builtin.max_, Builtin.max2]
    · rename_i d s t tl hts
      simp only [scL] at m2
      refine ok_copy ho ?_ hts hr m2.1 m2.2.1 h
      simpa [concL] using m1
    · rename_i s x t t' hts
      obtain ⟨htt, hh⟩ := cond_ne h
      have htt : t = t' := by simpa using htt
      subst htt
      simp only [scL] at m2
      obtain ⟨lt⟩ := ts
      simp at hts
      subst hts
      refine ok_append ho ?_ hr hid m2.1 hh
      simpa [concL] using m1
    · simp at h

/-- What an operation comes to over a heap of ours, it comes to in a world. -/
theorem dop_ok (he : EOk K ρ e act) (hid : ¬ K id) (hr : Reps P K ρ H w) (h : (dop P o.op e H.get id).get = some eff) : DoOk P K ρ H w id eff ((execOp act o).run P w) := by
  have h0 := h
  unfold dop at h0
  split at h0
  · rename_i x ho; exact ok_move (.inl ho) he h
  · rename_i x ho; exact ok_move (.inr ho) he h
  · rename_i c a b ho; exact ok_pick ho he h
  · rename_i t ho; exact ok_alloc ho hid h
  · rename_i t x ho; exact ok_box ho he hid h
  · rename_i t ps ho; exact ok_build ho he h
  · rename_i t n ps ho; exact ok_buildSlice ho he hid h
  · rename_i t a ho; exact ok_load ho he hr h
  · rename_i t a x ho; exact ok_store ho he hr h
  · rename_i x ho; exact ok_nil ho he h
  · rename_i op t x y yt ho; exact ok_bin ho he h
  · rename_i op t x ho; exact ok_un ho he h
  · rename_i s d x ho; exact ok_conv ho he h
  · rename_i f a b ho; exact ok_func ho he h
  · rename_i s x f ho; exact ok_fieldAddr ho he h
  · rename_i t x i ho; exact ok_indexAddr ho he h
  · rename_i t x f ho; exact ok_field ho he h
  · rename_i x i ho; exact ok_extract ho he h
  · rename_i t l c ho; exact ok_makeSlice ho he hid h
  · rename_i b args ts ho; exact ok_builtin ho he hid hr h
  · simp at h0
end
end Go.Proofs.Ytbgdhahdihbpaaa.Ev
end
