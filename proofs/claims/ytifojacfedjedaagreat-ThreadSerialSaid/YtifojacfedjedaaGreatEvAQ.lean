/- EV: values whose blocks are numbers of our own, heaps of them, answers with branches; how they stand for a world's. No condition. EV: a heap of ours stands for a world's. No condition. EV: what each operation comes to, over a heap of ours. No condition. EV: an operation, over a heap of ours. No condition. EV: what an operation comes to over a heap of ours, it comes to in a world. No condition. EV: the operations that look at memory, and those with ways; all operations. No condition. EV: structs and slices that are built; loads and stores. No condition. EV: copy and append. No condition. EV: slices of slices, parts of arrays and strings, interfaces, maps. No condition. EV: stores, makes, builtins; all operations. No condition. EV: regions, code and calls, over heaps of ours. No condition. -/
import Derived.Calls
import Derived.Orders
import Derived.Laws.OwnMore
import Derived.Laws.Tables
import Derived.Laws.Rows
import Derived.WalkKit
import Derived.ChangeKeysEq
import Derived.Laws.MakeOwn
import Derived.Laws.AppendOwn
section
namespace Go.Proofs.YtifojacfedjedaaGreat.Ev
set_option linter.unusedVariables false
set_option linter.unusedSimpArgs false

/-- Which block a number is, and how much room is behind the slices into it. -/
structure Val where
  blk : Nat → Nat
  room : Nat → Nat
  start : Nat → Nat

/-- A place: plain ones have no spot; one with a spot is within a row of records: 'off' is the record's number, the spot says how wide records are, and where within. -/
def caddr (ρ : Val) (a : Addr) : Addr := match a.spot with
  | none => ⟨ρ.blk a.block, ρ.start a.block + a.off, none⟩
  | some s => ⟨ρ.blk a.block, ρ.start a.block + (a.off * (s % 1048576 / 4096) + s % 4096), none⟩
/-- A slice has no more room than is said. -/
def exact_ (a : Addr) : Bool := match a.spot with
  | none => false
  | some s => Nat.ble 1048576 s
def ccap (ρ : Val) (a : Addr) (c : Nat) : Nat := cond (exact_ a) c (c + ρ.room a.block)
@[simp] theorem caddr_none (ρ : Val) (i off : Nat) : caddr ρ ⟨i, off, none⟩ = ⟨ρ.blk i, ρ.start i + off, none⟩ := rfl
@[simp] theorem ccap_none (ρ : Val) (i off c : Nat) : ccap ρ ⟨i, off, none⟩ c = c + ρ.room i := rfl
theorem caddr_spot (ρ : Val) (a : Addr) : (caddr ρ a).spot = none := by
  obtain ⟨b, o, s⟩ := a
  cases s <;> rfl
mutual
def conc (ρ : Val) : Value → Value
  | .pointer (some a) => .pointer (some (caddr ρ a))
  | .slice (some a) l c => .slice (some (caddr ρ a)) l (ccap ρ a c)
  | .map (some r) => .map (some (ρ.blk r))
  | .func fn a b => .func fn (concA ρ a) (concA ρ b)
  | .iface t v => .iface t (conc ρ v)
  | .agg cs => .agg (concA ρ cs)
  | .tuple vs => .tuple (concA ρ vs)
  | v => v
def concA (ρ : Val) : Array Value → Array Value
  | ⟨l⟩ => ⟨concL ρ l⟩
def concL (ρ : Val) : List Value → List Value
  | [] => []
  | v :: l => conc ρ v :: concL ρ l
end

theorem concL_eq (ρ : Val) (l : List Value) : concL ρ l = l.map (conc ρ) := by
  induction l with
  | nil => simp [concL]
  | cons v l ih => simp [concL, ih]
theorem concA_eq (ρ : Val) (a : Array Value) : concA ρ a = a.map (conc ρ) := by
  obtain ⟨l⟩ := a
  simp [concA, concL_eq]
@[simp] theorem concA_size (ρ : Val) (a : Array Value) : (concA ρ a).size = a.size := by simp [concA_eq]
@[simp] theorem concL_length (ρ : Val) (a : List Value) : (concL ρ a).length = a.length := by simp [concL_eq]

mutual
/-- Nothing in it names a block. -/
def plain : Value → Bool
  | .pointer (some _) => false
  | .slice (some _) _ _ => false
  | .map (some _) => false
  | .func _ a b => plainA a && plainA b
  | .iface _ v => plain v
  | .agg cs => plainA cs
  | .tuple vs => plainA vs
  | _ => true
def plainA : Array Value → Bool
  | ⟨l⟩ => plainL l
def plainL : List Value → Bool
  | [] => true
  | v :: l => plain v && plainL l
end

mutual
theorem conc_plain (ρ : Val) : ∀ v : Value, plain v = true → conc ρ v = v
  | .pointer (some _), h => by simp [plain] at h
  | .pointer none, _ => by simp [conc]
  | .slice (some _) _ _, h => by simp [plain] at h
  | .slice none _ _, _ => by simp [conc]
  | .map (some _), h => by simp [plain] at h
  | .map none, _ => by simp [conc]
  | .func _ a b, h => by
    simp [plain] at h
    simp [conc, concA_plain ρ a h.1, concA_plain ρ b h.2]
  | .iface _ v, h => by
    simp [plain] at h
    simp [conc, conc_plain ρ v h]
  | .agg cs, h => by
    simp [plain] at h
    simp [conc, concA_plain ρ cs h]
  | .tuple cs, h => by
    simp [plain] at h
    simp [conc, concA_plain ρ cs h]
  | .bool _, _ => by simp [conc]
  | .int _ _, _ => by simp [conc]
  | .float _ _, _ => by simp [conc]
  | .complex _ _ _, _ => by simp [conc]
  | .string _, _ => by simp [conc]
  | .chan _, _ => by simp [conc]
  | .nilFunc, _ => by simp [conc]
  | .nilIface, _ => by simp [conc]
theorem concA_plain (ρ : Val) : ∀ a : Array Value, plainA a = true → concA ρ a = a
  | ⟨l⟩, h => by simp [plainA] at h; simp [concA, concL_plain ρ l h]
theorem concL_plain (ρ : Val) : ∀ l : List Value, plainL l = true → concL ρ l = l
  | [], _ => by simp [concL]
  | v :: l, h => by
    simp [plainL] at h
    simp [concL, conc_plain ρ v h.1, concL_plain ρ l h.2]
end

/-- What a record's cell is. -/
inductive Fmt where
  | int (k : IntKind)
  | bool
  deriving DecidableEq
def Fmt.enc : Fmt → Int → Value
  | .int k, n => .int k n
  | .bool, n => .bool (decide (n = 1))
/-- A record's cells, from one on. -/
def encR : List Fmt → Nat → List Int → List Value
  | [], _, _ => []
  | f :: fs, c, r => f.enc (r.getD c 0) :: encR fs (c + 1) r
@[simp] theorem encR_length (fs : List Fmt) : ∀ (c : Nat) (r : List Int), (encR fs c r).length = fs.length := by
  induction fs with
  | nil => intro c r; rfl
  | cons f fs ih => intro c r; simp [encR, ih]
theorem enc_plain (f : Fmt) (n : Int) : plain (f.enc n) = true := by cases f <;> rfl
theorem encR_plain (fs : List Fmt) : ∀ (c : Nat) (r : List Int), plainL (encR fs c r) = true := by
  induction fs with
  | nil => intro c r; rfl
  | cons f fs ih => intro c r; simp [encR, plainL, enc_plain, ih]
def flatM (es : List (Value × Value)) : List Value := es.flatMap fun p => [p.1, p.2]
/-- What a block holds: values, numbers of one kind, records of one form; a map's entries; values of which some are not known. -/
inductive Cells where
  | vals (l : List Value)
  | ints (k : IntKind) (ws : List Int)
  | recs (fs : List Fmt) (rs : List (List Int))
  | map (es : List (Value × Value))
  | part (l : List Value) (h : List Bool)
def Cells.list : Cells → List Value
  | .vals l => l
  | .ints k ws => ws.map (.int k)
  | .recs fs rs => rs.flatMap (encR fs 0)
  | .map es => flatM es
  | .part l _ => l
structure Blk where
  t : TypeId
  c : Cells

/-- A window: some cells of a block that is not ours, and that is only read. It is known by its type's number. -/
def winT : TypeId := 1099511627776
def isWin (b : Blk) : Bool := Nat.ble winT b.t
/-- A table by number. -/
inductive Tr (α : Type) where
  | nil
  | node (v : Option α) (l r : Tr α)
def Tr.get {α : Type} : Tr α → Nat → Option α
  | .nil, _ => none
  | .node v l r, i => match i with
    | 0 => v
    | j + 1 => cond (j % 2 == 0) (l.get (j / 2)) (r.get (j / 2))
def Tr.set {α : Type} : Nat → Tr α → Nat → Option α → Tr α
  | 0, t, _, _ => t
  | n + 1, .nil, i, v => match i with
    | 0 => .node v .nil .nil
    | j + 1 => cond (j % 2 == 0) (.node none (Tr.set n .nil (j / 2) v) .nil) (.node none .nil (Tr.set n .nil (j / 2) v))
  | n + 1, .node u l r, i, v => match i with
    | 0 => .node v l r
    | j + 1 => cond (j % 2 == 0) (.node u (Tr.set n l (j / 2) v) r) (.node u l (Tr.set n r (j / 2) v))
theorem Tr.get_set {α : Type} : ∀ (n : Nat) (t : Tr α) (i j : Nat) (v : Option α), i < n → (Tr.set n t i v).get j = if i = j then v else t.get j := by
  intro n
  induction n with
  | zero => intro t i j v h; omega
  | succ n ih =>
    intro t i j v h
    cases t with
    | nil =>
      cases i with
      | zero => cases j <;> simp [Tr.set, Tr.get]
      | succ i =>
        cases j with
        | zero => simp only [Tr.set]; cases hc : (i % 2 == 0) <;> simp [Tr.get]
        | succ j =>
          simp only [Tr.set]
          cases hc : (i % 2 == 0) <;> simp only [cond, Tr.get] <;> cases hd : (j % 2 == 0) <;> simp only [cond, Tr.get] <;> simp at hc hd
          · rw [ih _ _ _ _ (by omega)]
            simp only [Tr.get]
            by_cases e : i = j
            · subst e; simp
            · rw [if_neg (by omega), if_neg (by omega)]
          · rw [if_neg (by omega)]
          · rw [if_neg (by omega)]
          · rw [ih _ _ _ _ (by omega)]
            simp only [Tr.get]
            by_cases e : i = j
            · subst e; simp
            · rw [if_neg (by omega), if_neg (by omega)]
    | node u l r =>
      cases i with
      | zero => cases j <;> simp [Tr.set, Tr.get]
      | succ i =>
        cases j with
        | zero => simp only [Tr.set]; cases hc : (i % 2 == 0) <;> simp [Tr.get]
        | succ j =>
          simp only [Tr.set]
          cases hc : (i % 2 == 0) <;> simp only [cond, Tr.get] <;> cases hd : (j % 2 == 0) <;> simp only [cond, Tr.get] <;> simp at hc hd
          · rw [ih _ _ _ _ (by omega)]
            by_cases e : i = j
            · subst e; simp
            · rw [if_neg (by omega), if_neg (by omega)]
          · rw [if_neg (by omega)]
          · rw [if_neg (by omega)]
          · rw [ih _ _ _ _ (by omega)]
            by_cases e : i = j
            · subst e; simp
            · rw [if_neg (by omega), if_neg (by omega)]

/-- A heap, as what each number holds; numbers from n on are not yet used. -/
structure Heap where
  get : Nat → Option Blk
  n : Nat
def Heap.set (H : Heap) (i : Nat) (v : Option Blk) : Heap := ⟨fun j => if i = j then v else H.get j, H.n⟩
@[simp] theorem Heap.get_set (H : Heap) (i j : Nat) (v : Option Blk) : (H.set i v).get j = if i = j then v else H.get j := rfl
@[simp] theorem Heap.n_set (H : Heap) (i : Nat) (v : Option Blk) : (H.set i v).n = H.n := rfl
/-- A heap as a table. -/
structure TH where
  tr : Tr Blk
  n : Nat
def TH.get (H : TH) (i : Nat) : Option Blk := H.tr.get i
def TH.set (H : TH) (i : Nat) (v : Option Blk) : TH := ⟨Tr.set (i + 1) H.tr i v, H.n⟩
def TH.sem (H : TH) : Heap := ⟨H.get, H.n⟩
@[simp] theorem TH.get_set (H : TH) (i j : Nat) (v : Option Blk) : (H.set i v).get j = if i = j then v else H.get j := Tr.get_set _ _ _ _ _ (Nat.lt_succ_self i)
@[simp] theorem TH.n_set (H : TH) (i : Nat) (v : Option Blk) : (H.set i v).n = H.n := rfl
@[simp] theorem TH.sem_set (H : TH) (i : Nat) (v : Option Blk) : (H.set i v).sem = H.sem.set i v := by
  unfold TH.sem Heap.set
  congr 1
  funext j
  exact TH.get_set H i j v
/-- A frame's slots: those that are known. -/
structure TT where
  tr : Tr Value
  n : Nat
def TT.get (T : TT) (i : Nat) : Option Value := T.tr.get i
def TT.set (T : TT) (i : Nat) (v : Option Value) : TT := ⟨Tr.set (i + 1) T.tr i v, T.n⟩
@[simp] theorem TT.get_set (T : TT) (i j : Nat) (v : Option Value) : (T.set i v).get j = if i = j then v else T.get j := Tr.get_set _ _ _ _ _ (Nat.lt_succ_self i)
@[simp] theorem TT.n_set (T : TT) (i : Nat) (v : Option Value) : (T.set i v).n = T.n := rfl

/-- An answer: it may hang on what is not known. -/
inductive Tree (α : Type) where
  | leaf (a : α)
  | bad
  | br (b : Bool) (t e : Tree α)
def Tree.bind {α β : Type} : Tree α → (α → Tree β) → Tree β
  | .leaf a, k => k a
  | .bad, _ => .bad
  | .br b t e, k => .br b (t.bind k) (e.bind k)
def Tree.get {α : Type} : Tree α → Option α
  | .leaf a => some a
  | .bad => none
  | .br b t e => cond b t.get e.get
/-- What has to hold of the answer, holds. -/
def Tree.den {α : Type} (K : α → Prop) : Tree α → Prop
  | .leaf a => K a
  | .bad => False
  | .br b t e => cond b (t.den K) (e.den K)
section
variable {α β : Type}
@[simp] theorem Tree.get_leaf (a : α) : (Tree.leaf a).get = some a := rfl
@[simp] theorem Tree.get_bad : (Tree.bad : Tree α).get = none := rfl
@[simp] theorem Tree.get_br (b : Bool) (t e : Tree α) : (Tree.br b t e).get = if b = true then t.get else e.get := by cases b <;> rfl
@[simp] theorem Tree.get_bind (t : Tree α) (k : α → Tree β) : (t.bind k).get = t.get.bind fun a => (k a).get := by
  induction t with
  | leaf a => rfl
  | bad => rfl
  | br b x y ihx ihy => cases b <;> simp [Tree.bind, Tree.get] <;> first | exact ihx | exact ihy
theorem Tree.den_iff (K : α → Prop) (t : Tree α) : t.den K ↔ ∃ a, t.get = some a ∧ K a := by
  induction t with
  | leaf a => simp [Tree.den]
  | bad => simp [Tree.den]
  | br b x y ihx ihy => cases b <;> simp [Tree.den, ihx, ihy]
@[simp] theorem Tree.den_bind (K : β → Prop) (t : Tree α) (k : α → Tree β) : (t.bind k).den K = t.den fun a => (k a).den K := by
  induction t with
  | leaf a => rfl
  | bad => rfl
  | br b x y ihx ihy => simp only [Tree.bind, Tree.den] at *; rw [← ihx, ← ihy]
end
/-- An answer that may be none, as one. -/
def ofOpt {α β : Type} : Option α → (α → Tree β) → Tree β
  | none, _ => .bad
  | some a, k => k a
@[simp] theorem get_ofOpt {α β : Type} (o : Option α) (k : α → Tree β) : (ofOpt o k).get = o.bind fun a => (k a).get := by cases o <;> rfl
end Go.Proofs.YtifojacfedjedaaGreat.Ev
end

section
namespace Go.Proofs.YtifojacfedjedaaGreat.Ev
set_option linter.unusedVariables false
set_option linter.unusedSimpArgs false

mutual
/-- Every number that is named in it is known. -/
def sc (K : Nat → Prop) : Value → Prop
  | .pointer (some a) => K a.block
  | .slice (some a) _ _ => K a.block
  | .map (some r) => K r
  | .func _ a b => scA K a ∧ scA K b
  | .iface _ v => sc K v
  | .agg cs => scA K cs
  | .tuple vs => scA K vs
  | _ => True
def scA (K : Nat → Prop) : Array Value → Prop
  | ⟨l⟩ => scL K l
def scL (K : Nat → Prop) : List Value → Prop
  | [] => True
  | v :: l => sc K v ∧ scL K l
end
theorem scL_iff {K : Nat → Prop} {l : List Value} : scL K l ↔ ∀ v ∈ l, sc K v := by
  induction l with
  | nil => simp [scL]
  | cons v l ih => simp [scL, ih]
theorem scA_iff {K : Nat → Prop} {a : Array Value} : scA K a ↔ ∀ v ∈ a.toList, sc K v := by
  obtain ⟨l⟩ := a
  simp [scA, scL_iff]

mutual
theorem sc_plain (K : Nat → Prop) : ∀ v : Value, plain v = true → sc K v
  | .pointer (some _), h => by simp [plain] at h
  | .pointer none, _ => by simp [sc]
  | .slice (some _) _ _, h => by simp [plain] at h
  | .slice none _ _, _ => by simp [sc]
  | .map (some _), h => by simp [plain] at h
  | .map none, _ => by simp [sc]
  | .func _ a b, h => by simp [plain] at h; simp [sc, scA_plain K a h.1, scA_plain K b h.2]
  | .iface _ v, h => by simp [plain] at h; simp [sc, sc_plain K v h]
  | .agg cs, h => by simp [plain] at h; simp [sc, scA_plain K cs h]
  | .tuple cs, h => by simp [plain] at h; simp [sc, scA_plain K cs h]
  | .bool _, _ => by simp [sc]
  | .int _ _, _ => by simp [sc]
  | .float _ _, _ => by simp [sc]
  | .complex _ _ _, _ => by simp [sc]
  | .string _, _ => by simp [sc]
  | .chan _, _ => by simp [sc]
  | .nilFunc, _ => by simp [sc]
  | .nilIface, _ => by simp [sc]
theorem scA_plain (K : Nat → Prop) : ∀ a : Array Value, plainA a = true → scA K a
  | ⟨l⟩, h => by simp [plainA] at h; simp [scA, scL_plain K l h]
theorem scL_plain (K : Nat → Prop) : ∀ l : List Value, plainL l = true → scL K l
  | [], _ => by simp [scL]
  | v :: l, h => by simp [plainL] at h; simp [scL, sc_plain K v h.1, scL_plain K l h.2]
end
mutual
theorem sc_mono {K K' : Nat → Prop} (hk : ∀ i, K i → K' i) : ∀ v : Value, sc K v → sc K' v
  | .pointer (some _), h => by simp [sc] at *; exact hk _ h
  | .pointer none, _ => by simp [sc]
  | .slice (some _) _ _, h => by simp [sc] at *; exact hk _ h
  | .slice none _ _, _ => by simp [sc]
  | .map (some _), h => by simp [sc] at *; exact hk _ h
  | .map none, _ => by simp [sc]
  | .func _ a b, h => by simp [sc] at *; exact ⟨scA_mono hk a h.1, scA_mono hk b h.2⟩
  | .iface _ v, h => by simp [sc] at *; exact sc_mono hk v h
  | .agg cs, h => by simp [sc] at *; exact scA_mono hk cs h
  | .tuple cs, h => by simp [sc] at *; exact scA_mono hk cs h
  | .bool _, _ => by simp [sc]
  | .int _ _, _ => by simp [sc]
  | .float _ _, _ => by simp [sc]
  | .complex _ _ _, _ => by simp [sc]
  | .string _, _ => by simp [sc]
  | .chan _, _ => by simp [sc]
  | .nilFunc, _ => by simp [sc]
  | .nilIface, _ => by simp [sc]
theorem scA_mono {K K' : Nat → Prop} (hk : ∀ i, K i → K' i) : ∀ a : Array Value, scA K a → scA K' a
  | ⟨l⟩, h => by simp [scA] at *; exact scL_mono hk l h
theorem scL_mono {K K' : Nat → Prop} (hk : ∀ i, K i → K' i) : ∀ l : List Value, scL K l → scL K' l
  | [], _ => by simp [scL]
  | v :: l, h => by simp [scL] at *; exact ⟨sc_mono hk v h.1, scL_mono hk l h.2⟩
end
/-- Two tables that agree on what is known. -/
structure Same (K : Nat → Prop) (ρ ρ' : Val) : Prop where
  blk : ∀ i, K i → ρ'.blk i = ρ.blk i
  room : ∀ i, K i → ρ'.room i = ρ.room i
  start : ∀ i, K i → ρ'.start i = ρ.start i
theorem Same.refl (K : Nat → Prop) (ρ : Val) : Same K ρ ρ := ⟨fun _ _ => rfl, fun _ _ => rfl, fun _ _ => rfl⟩
theorem Same.trans {K K' : Nat → Prop} {a b c : Val} (h : Same K a b) (h' : Same K' b c) (hk : ∀ i, K i → K' i) : Same K a c :=
  ⟨fun i hi => (h'.blk i (hk i hi)).trans (h.blk i hi), fun i hi => (h'.room i (hk i hi)).trans (h.room i hi), fun i hi => (h'.start i (hk i hi)).trans (h.start i hi)⟩
theorem caddr_same {ρ ρ' : Val} {a : Addr} (h : ρ'.blk a.block = ρ.blk a.block) (h' : ρ'.start a.block = ρ.start a.block) : caddr ρ' a = caddr ρ a := by
  obtain ⟨b, o, s⟩ := a
  cases s <;> simp [caddr] at * <;> simp [h, h']
theorem ccap_same {ρ ρ' : Val} {a : Addr} {c : Nat} (h : ρ'.room a.block = ρ.room a.block) : ccap ρ' a c = ccap ρ a c := by
  simp [ccap, h]
mutual
theorem conc_same {K : Nat → Prop} {ρ ρ' : Val} (s : Same K ρ ρ') : ∀ v : Value, sc K v → conc ρ' v = conc ρ v
  | .pointer (some _), h => by simp [sc] at h; simp [conc, caddr_same (s.blk _ h) (s.start _ h)]
  | .pointer none, _ => by simp [conc]
  | .slice (some _) _ _, h => by simp [sc] at h; simp [conc, caddr_same (s.blk _ h) (s.start _ h), ccap_same (s.room _ h)]
  | .slice none _ _, _ => by simp [conc]
  | .map (some _), h => by simp [sc] at h; simp [conc, s.blk _ h]
  | .map none, _ => by simp [conc]
  | .func _ a b, h => by simp [sc] at h; simp [conc, concA_same s a h.1, concA_same s b h.2]
  | .iface _ v, h => by simp [sc] at h; simp [conc, conc_same s v h]
  | .agg cs, h => by simp [sc] at h; simp [conc, concA_same s cs h]
  | .tuple cs, h => by simp [sc] at h; simp [conc, concA_same s cs h]
  | .bool _, _ => by simp [conc]
  | .int _ _, _ => by simp [conc]
  | .float _ _, _ => by simp [conc]
  | .complex _ _ _, _ => by simp [conc]
  | .string _, _ => by simp [conc]
  | .chan _, _ => by simp [conc]
  | .nilFunc, _ => by simp [conc]
  | .nilIface, _ => by simp [conc]
theorem concA_same {K : Nat → Prop} {ρ ρ' : Val} (s : Same K ρ ρ') : ∀ a : Array Value, scA K a → concA ρ' a = concA ρ a
  | ⟨l⟩, h => by simp [scA] at h; simp [concA, concL_same s l h]
theorem concL_same {K : Nat → Prop} {ρ ρ' : Val} (s : Same K ρ ρ') : ∀ l : List Value, scL K l → concL ρ' l = concL ρ l
  | [], _ => by simp [concL]
  | v :: l, h => by simp [scL] at h; simp [concL, conc_same s v h.1, concL_same s l h.2]
end

/-- How many cells a value of a type has; 0 where there is no such type. -/
def cellsOf (P : Program) (t : TypeId) : Nat := match P.info? t with
  | some i => i.size
  | none => 0
/-- A map's entries; ex: since when each is there. -/
def bornOf : List Value → Nat
  | .int _ n :: _ => n.toNat
  | _ => 0
def entries (ρ : Val) : List (Value × Value) → List Value → List MapEntry
  | [], _ => []
  | (k, v) :: es, ex => ⟨conc ρ k, conc ρ v, bornOf ex⟩ :: entries ρ es ex.tail
/-- Values laid over others, where they are known. -/
def over (ρ : Val) : List Value → List Bool → List Value → List Value
  | v :: l, h, e :: ex => cond (h.headD true) (conc ρ v) e :: over ρ l h.tail ex
  | [], _, ex => ex
  | _ :: _, _, [] => []
/-- A block as it lies in a world. -/
def obj (ρ : Val) (b : Blk) (ex : List Value) : Obj := match b.c with
  | .map es => .map ⟨entries ρ es ex.tail⟩ (bornOf ex)
  | .part l h => .cells ⟨over ρ l h ex⟩ b.t (0, 0)
  | c => .cells ⟨concL ρ c.list ++ ex⟩ b.t (0, 0)
def isMap : Cells → Bool
  | .map _ => true
  | .part _ _ => true
  | _ => false
theorem obj_cells {ρ : Val} {b : Blk} {ex : List Value} (h : isMap b.c = false) : obj ρ b ex = .cells ⟨concL ρ b.c.list ++ ex⟩ b.t (0, 0) := by
  unfold obj
  cases hc : b.c <;> simp [hc, isMap] at h ⊢
/-- What is behind the cells of a block. -/
def fits (P : Program) (room : Nat) (b : Blk) (ex : List Value) : Prop := match b.c with
  | .map es => ex.length = es.length + 1
  | .part l _ => ex.length = l.length + room * cellsOf P b.t
  | _ => ex.length = room * cellsOf P b.t
theorem fits_cells {P : Program} {room : Nat} {b : Blk} {ex : List Value} (h : isMap b.c = false) : fits P room b ex ↔ ex.length = room * cellsOf P b.t := by
  unfold fits
  cases hc : b.c <;> simp [hc, isMap] at h ⊢
theorem entries_same {K : Nat → Prop} {ρ ρ' : Val} (s : Same K ρ ρ') : ∀ (es : List (Value × Value)) (ex : List Value), scL K (flatM es) → entries ρ' es ex = entries ρ es ex
  | [], _, _ => rfl
  | (k, v) :: es, ex, h => by
    simp only [flatM, List.flatMap_cons, List.cons_append, List.nil_append, scL] at h
    simp only [entries, conc_same s k h.1, conc_same s v h.2.1]
    rw [entries_same s es ex.tail h.2.2]
@[simp] theorem over_length (ρ : Val) : ∀ (l : List Value) (h : List Bool) (ex : List Value), (over ρ l h ex).length = ex.length
  | [], _, ex => by simp [over]
  | v :: l, h, [] => by simp [over]
  | v :: l, h, e :: ex => by simp [over, over_length ρ l h.tail ex]
theorem over_same {K : Nat → Prop} {ρ ρ' : Val} (s : Same K ρ ρ') : ∀ (l : List Value) (h : List Bool) (ex : List Value), scL K l → over ρ' l h ex = over ρ l h ex
  | [], _, ex, _ => by simp [over]
  | v :: l, h, [], _ => by simp [over]
  | v :: l, h, e :: ex, hs => by
    simp only [scL] at hs
    simp only [over, conc_same s v hs.1, over_same s l h.tail ex hs.2]
/-- What is known lies there. -/
theorem over_get (ρ : Val) : ∀ (l : List Value) (h : List Bool) (ex : List Value) (j : Nat) (v : Value), l.length ≤ ex.length → l[j]? = some v → h.getD j true = true → (over ρ l h ex)[j]? = some (conc ρ v)
  | [], h, ex, j, v, _, hj, _ => by simp at hj
  | u :: l, h, [], j, v, hl, _, _ => by simp at hl
  | u :: l, h, e :: ex, 0, v, _, hj, hh => by
    simp at hj
    subst hj
    have : h.headD true = true := by cases h <;> simp_all
    simp only [over, List.getElem?_cons_zero, this, cond_true]
  | u :: l, h, e :: ex, j + 1, v, hl, hj, hh => by
    simp at hj hl
    simp only [over, List.getElem?_cons_succ]
    exact over_get ρ l h.tail ex j v hl hj (by cases h <;> simp_all)
/-- What is laid over itself is the same. -/
theorem over_self (ρ : Val) : ∀ (l : List Value) (h : List Bool) (ex : List Value), (∀ (j : Nat) v, l[j]? = some v → h.getD j true = true → ex[j]? = some (conc ρ v)) → over ρ l h ex = ex
  | [], h, ex, _ => by simp [over]
  | u :: l, h, [], _ => by simp [over]
  | u :: l, h, e :: ex, hh => by
    simp only [over]
    rw [over_self ρ l h.tail ex (fun j v hj hk => by
      have := hh (j + 1) v (by simpa using hj) (by cases h <;> simp_all)
      simpa using this)]
    congr 1
    cases hk : h.headD true with
    | false => rfl
    | true =>
      have := hh 0 u (by simp) (by cases h <;> simp_all)
      simp at this
      exact this.symm
theorem obj_same {K : Nat → Prop} {ρ ρ' : Val} (s : Same K ρ ρ') {b : Blk} {ex : List Value} (h : scL K b.c.list) : obj ρ' b ex = obj ρ b ex := by
  by_cases hm : isMap b.c = false
  · rw [obj_cells hm, obj_cells hm, concL_same s _ h]
  · unfold obj
    cases hc : b.c with
    | map es => rw [hc] at h; simp only; rw [entries_same s es _ h]
    | part l m => rw [hc] at h; simp only; rw [over_same s l m ex h]
    | _ => simp [hc, isMap] at hm

/-- How a block lies: a window's cells are there; another block is just what it is. -/
def lies (P : Program) (ρ : Val) (i : Nat) (b : Blk) (o : Obj) : Prop := match isWin b with
  | true => isMap b.c = false ∧ ∃ cs t fr, o = .cells cs t fr ∧ ∀ (j : Nat) v, b.c.list[j]? = some v → cs[ρ.start i + j]? = some (conc ρ v)
  | false => ρ.start i = 0 ∧ ∃ ex : List Value, o = obj ρ b ex ∧ fits P (ρ.room i) b ex
theorem lies_row {P : Program} {ρ : Val} {i : Nat} {b : Blk} {o : Obj} (hw : isWin b = false) : lies P ρ i b o ↔ ρ.start i = 0 ∧ ∃ ex : List Value, o = obj ρ b ex ∧ fits P (ρ.room i) b ex := by
  unfold lies
  simp [hw]
/-- It may lie under another number, of another table. -/
theorem lies_as {P : Program} {ρ ρ' : Val} {i j : Nat} {b c : Blk} {o : Obj} (ht : c.t = b.t) (hm : isMap c.c = isMap b.c)
    (hs : ρ'.start j = ρ.start i) (hr : ρ'.room j = ρ.room i) (hl : isMap b.c = false → c.c.list.map (conc ρ') = b.c.list.map (conc ρ)) (ho : ∀ ex, isMap b.c = true → obj ρ' c ex = obj ρ b ex) (hf : ∀ k ex, fits P k b ex → fits P k c ex)
    (h : lies P ρ i b o) : lies P ρ' j c o := by
  unfold lies isWin at *
  rw [ht]
  cases hw : Nat.ble winT b.t with
  | true =>
    simp only [hw] at h ⊢
    obtain ⟨h1, cs, t, fr, h2, h3⟩ := h
    refine ⟨by rw [hm]; exact h1, cs, t, fr, h2, fun q v hv => ?_⟩
    have e := congrArg (fun l : List Value => l[q]?) (hl h1)
    simp only [List.getElem?_map, hv, Option.map_some] at e
    cases hb : b.c.list[q]? with
    | none => simp [hb] at e
    | some u =>
      simp only [hb, Option.map_some, Option.some.injEq] at e
      rw [hs, e]
      exact h3 q u hb
  | false =>
    simp only [hw] at h ⊢
    obtain ⟨h1, ex, h2, h3⟩ := h
    refine ⟨hs.trans h1, ex, ?_, by rw [hr]; exact hf _ _ h3⟩
    cases hmm : isMap b.c with
    | true => rw [h2, ho ex hmm]
    | false => rw [h2, obj_cells hmm, obj_cells (hm.trans hmm), concL_eq, concL_eq, hl hmm, ht]
theorem lies_same {P : Program} {K : Nat → Prop} {ρ ρ' : Val} (s : Same K ρ ρ') {i : Nat} {b : Blk} {o : Obj} (hk : K i) (h : scL K b.c.list) (hl : lies P ρ i b o) : lies P ρ' i b o :=
  lies_as rfl rfl (s.start i hk) (s.room i hk) (fun _ => by rw [← concL_eq, ← concL_eq, concL_same s _ h]) (fun ex _ => obj_same s h) (fun _ _ h => h) hl
theorem isWin_t {b c : Blk} (h : c.t = b.t) : isWin c = isWin b := by unfold isWin; rw [h]

structure Reps (P : Program) (K : Nat → Prop) (ρ : Val) (H : Heap) (w : World) : Prop where
  blk : ∀ i b, H.get i = some b → ∃ o, w.heap[ρ.blk i]? = some o ∧ lies P ρ i b o
  inj : ∀ i j b b', H.get i = some b → H.get j = some b' → ρ.blk i = ρ.blk j → i = j ∨ (isWin b = true ∧ isWin b' = true)
  known : ∀ i b, H.get i = some b → K i ∧ scL K b.c.list
  low : ∀ i, K i → i < H.n

/-- A block that is ours. -/
def own (H : Heap) (i : Nat) : Prop := ∃ b, H.get i = some b ∧ isWin b = false
theorem own.get {H : Heap} {i : Nat} (h : own H i) : H.get i ≠ none := by
  obtain ⟨b, h, _⟩ := h
  rw [h]; simp
/-- From one heap and world to later ones: numbers mean what they meant; no block but those of L, and new ones, is another one. -/
structure Fr (K : Nat → Prop) (ρ : Val) (H : Heap) (w : World) (ρ' : Val) (H' : Heap) (w' : World) (L : List Nat) : Prop where
  same : Same K ρ ρ'
  n : H.n ≤ H'.n
  os : w'.os = w.os
  tape : w'.tape = w.tape
  output : w'.output = w.output
  size : w.heap.size ≤ w'.heap.size
  off : ∀ b, b < w.heap.size → (∀ i, i ∈ L → own H i → ρ.blk i ≠ b) → w'.heap[b]? = w.heap[b]?
  fresh : ∀ i, ¬ K i → own H' i → w.heap.size ≤ ρ'.blk i ∨ ∃ j, j ∈ L ∧ own H j ∧ ρ.blk j = ρ'.blk i
  keeps : ∀ i, i < H.n → i ∉ L → H'.get i = H.get i
  born : ∀ i d, K i → H'.get i = some d → ∃ d', H.get i = some d' ∧ isWin d' = isWin d
  wins : ∀ i d, H'.get i = some d → isWin d = true → K i

section
variable {P : Program} {K K' K0 : Nat → Prop} {ρ ρ' ρ'' ρ0 : Val} {H H' H'' H0 : Heap} {w w' w'' w0 : World} {L L' : List Nat}

theorem Reps.row (r : Reps P K ρ H w) (i : Nat) (b : Blk) (h : H.get i = some b) (hw : isWin b = false) :
    ∃ ex : List Value, w.heap[ρ.blk i]? = some (obj ρ b ex) ∧ fits P (ρ.room i) b ex ∧ ρ.start i = 0 := by
  obtain ⟨o, h1, h2⟩ := r.blk i b h
  obtain ⟨h3, ex, h4, h5⟩ := (lies_row hw).1 h2
  exact ⟨ex, by rw [h1, h4], h5, h3⟩
theorem Reps.mapRow (r : Reps P K ρ H w) (i : Nat) (b : Blk) (h : H.get i = some b) (hm : isMap b.c = true) : isWin b = false := by
  obtain ⟨o, _, h2⟩ := r.blk i b h
  cases hw : isWin b with
  | false => rfl
  | true =>
    unfold lies at h2
    simp only [hw] at h2
    rw [hm] at h2
    cases h2.1
/-- Whether a cell's value is known. -/
def seen (c : Cells) (j : Nat) : Prop := isMap c = false ∨ ∃ l h, c = .part l h ∧ h.getD j true = true
/-- What is in a block's cells, lies there. -/
theorem Reps.cell (r : Reps P K ρ H w) {i : Nat} {b : Blk} (h : H.get i = some b) {j : Nat} (hm : seen b.c j) {v : Value} (hv : b.c.list[j]? = some v) :
    w.cell? ⟨ρ.blk i, ρ.start i + j, none⟩ = some (conc ρ v) := by
  obtain ⟨o, h1, h2⟩ := r.blk i b h
  rcases hm with hm | ⟨l, m, hm, hk⟩
  case inr =>
    have hw : isWin b = false := r.mapRow i b h (by rw [hm]; rfl)
    obtain ⟨h3, ex, h4, h5⟩ := (lies_row hw).1 h2
    simp only [obj, hm] at h4
    simp only [fits, hm] at h5
    subst h4
    simp only [World.cell?, h1, h3, Nat.zero_add]
    show ((over ρ l m ex).toArray)[j]? = _
    rw [List.getElem?_toArray]
    rw [hm] at hv
    exact over_get ρ l m ex j v (by omega) hv hk
  cases hw : isWin b with
  | true =>
    unfold lies at h2
    simp only [hw] at h2
    obtain ⟨_, cs, t, fr, h3, h4⟩ := h2
    subst h3
    simp only [World.cell?, h1]
    exact h4 j v hv
  | false =>
    obtain ⟨h3, ex, h4, h5⟩ := (lies_row hw).1 h2
    rw [obj_cells hm] at h4
    subst h4
    have hlt : j < (concL ρ b.c.list).length := by
      simp only [concL_length]
      exact (List.getElem?_eq_some_iff.1 hv).1
    simp only [World.cell?, h1, h3, Nat.zero_add]
    show ((concL ρ b.c.list ++ ex).toArray)[j]? = _
    rw [List.getElem?_toArray, List.getElem?_append_left hlt, concL_eq, List.getElem?_map, hv]
    rfl
/-- A block that is no window shares its place with no other one. -/
theorem Reps.inj1 (r : Reps P K ρ H w) (i j : Nat) (b b' : Blk) (h : H.get i = some b) (h' : H.get j = some b') (hw : isWin b = false) (e : ρ.blk i = ρ.blk j) : i = j := by
  rcases r.inj i j b b' h h' e with h1 | ⟨h1, _⟩
  · exact h1
  · rw [hw] at h1; cases h1
theorem Reps.lt (r : Reps P K ρ H w) {i : Nat} {b : Blk} (h : H.get i = some b) : ρ.blk i < w.heap.size := by
  obtain ⟨o, h1, _⟩ := r.blk i b h
  exact (Array.getElem?_eq_some_iff.1 h1).1
theorem Fr.was (f : Fr K ρ H w ρ' H' w' L) {i : Nat} (hk : K i) (h : own H' i) : own H i := by
  obtain ⟨b, h1, h2⟩ := h
  obtain ⟨d, h3, h4⟩ := f.born i b hk h1
  exact ⟨d, h3, h4.trans h2⟩
theorem Fr.refl (r : Reps P K ρ H w) : Fr K ρ H w ρ H w [] :=
  ⟨Same.refl _ _, Nat.le_refl _, rfl, rfl, rfl, Nat.le_refl _, fun _ _ _ => rfl,
   fun i h h' => by
    obtain ⟨b, hb, _⟩ := h'
    exact absurd (r.known i b hb).1 h,
   fun _ _ _ => rfl, fun i d _ h => ⟨d, h, rfl⟩, fun i d h _ => (r.known i d h).1⟩
theorem Fr.drawn (h : Fr K ρ H w ρ' H' w' L) (n : Nat) : Fr K ρ H w ρ' H' { w' with drawn := n } L :=
  ⟨h.same, h.n, h.os, h.tape, h.output, h.size, h.off, h.fresh, h.keeps, h.born, h.wins⟩
theorem Reps.drawn (h : Reps P K ρ H w) (n : Nat) : Reps P K ρ H { w with drawn := n } := ⟨h.blk, h.inj, h.known, h.low⟩
theorem Reps.up (h : Reps P K ρ H w) (n : Nat) (hn : H.n ≤ n) : Reps P K ρ ⟨H.get, n⟩ w := ⟨h.blk, h.inj, h.known, fun i hi => Nat.lt_of_lt_of_le (h.low i hi) hn⟩
theorem Fr.up (h : Fr K ρ H w ρ' H' w' L) (n : Nat) (hn : H'.n ≤ n) : Fr K ρ H w ρ' ⟨H'.get, n⟩ w' L :=
  ⟨h.same, Nat.le_trans h.n hn, h.os, h.tape, h.output, h.size, h.off, h.fresh, h.keeps, h.born, h.wins⟩
theorem Fr.more (h : Fr K ρ H w ρ' H' w' L) (L' : List Nat) (hl : ∀ i, i ∈ L → i ∈ L') : Fr K ρ H w ρ' H' w' L' :=
  ⟨h.same, h.n, h.os, h.tape, h.output, h.size, fun b hb hn => h.off b hb (fun i hi => hn i (hl i hi)), fun i hi hg => (h.fresh i hi hg).imp id (fun ⟨j, a, b⟩ => ⟨j, hl j a, b⟩), fun i hi hn => h.keeps i hi (fun x => hn (hl i x)), h.born, h.wins⟩

/-- A number gets a block. -/
def Val.put (ρ : Val) (i b r : Nat) : Val := ⟨fun j => if j = i then b else ρ.blk j, fun j => if j = i then r else ρ.room j, fun j => if j = i then 0 else ρ.start j⟩
theorem Val.put_same {i b r : Nat} (h : ¬ K i) : Same K ρ (ρ.put i b r) :=
  ⟨fun j hj => by simp only [Val.put]; rw [if_neg (by rintro rfl; exact h hj)], fun j hj => by simp only [Val.put]; rw [if_neg (by rintro rfl; exact h hj)], fun j hj => by simp only [Val.put]; rw [if_neg (by rintro rfl; exact h hj)]⟩
/-- A number gets a place, and no block: what it names is not known. -/
def Val.lay (ρ : Val) (i b r s : Nat) : Val := ⟨fun j => if j = i then b else ρ.blk j, fun j => if j = i then r else ρ.room j, fun j => if j = i then s else ρ.start j⟩
theorem Val.lay_same {i b r s : Nat} (h : ¬ K i) : Same K ρ (ρ.lay i b r s) :=
  ⟨fun j hj => by simp only [Val.lay]; rw [if_neg (by rintro rfl; exact h hj)], fun j hj => by simp only [Val.lay]; rw [if_neg (by rintro rfl; exact h hj)], fun j hj => by simp only [Val.lay]; rw [if_neg (by rintro rfl; exact h hj)]⟩
def also (K : Nat → Prop) (i : Nat) : Nat → Prop := fun j => K j ∨ j = i

theorem Reps.lay (r : Reps P K ρ H w) {i b k s : Nat} (hi : i < H.n) (hK : ¬ K i) : Reps P (also K i) (ρ.lay i b k s) H w := by
  have hs : Same K ρ (ρ.lay i b k s) := Val.lay_same hK
  refine ⟨fun j c hj => ?_, fun j j' c c' hj hj' e => ?_, fun j c hj => ?_, fun j hj => ?_⟩
  · obtain ⟨o, h1, h2⟩ := r.blk j c hj
    obtain ⟨k1, k2⟩ := r.known j c hj
    exact ⟨o, by rw [hs.blk j k1]; exact h1, lies_same hs k1 k2 h2⟩
  · rw [hs.blk j (r.known _ _ hj).1, hs.blk j' (r.known _ _ hj').1] at e
    exact r.inj j j' c c' hj hj' e
  · obtain ⟨k1, k2⟩ := r.known j c hj
    exact ⟨.inl k1, scL_mono (fun _ h => .inl h) _ k2⟩
  · rcases hj with h | rfl
    · exact r.low j h
    · exact hi
theorem Fr.lay (h : Fr K0 ρ0 H0 w0 ρ H w L) (r : Reps P K ρ H w) {i b k s : Nat} (hk : ∀ j, K0 j → K j) (hK : ¬ K i) : Fr K0 ρ0 H0 w0 (ρ.lay i b k s) H w L := by
  have hs : Same K ρ (ρ.lay i b k s) := Val.lay_same hK
  refine ⟨h.same.trans hs hk, h.n, h.os, h.tape, h.output, h.size, h.off, fun j hj hg => ?_, h.keeps, h.born, h.wins⟩
  obtain ⟨c, hc, hw⟩ := hg
  rw [hs.blk j (r.known j c hc).1]
  exact h.fresh j hj ⟨c, hc, hw⟩
/-- A new block. -/
theorem Reps.alloc (r : Reps P K ρ H w) {i k : Nat} {b : Blk} {ex : List Value} (hi : i < H.n) (hK : ¬ K i) (hb : scL K b.c.list) (hex : fits P k b ex) (hw : isWin b = false) :
    Reps P (also K i) (ρ.put i w.heap.size k) (H.set i (some b)) { w with heap := w.heap.push (obj ρ b ex) } := by
  have hs : Same K ρ (ρ.put i w.heap.size k) := Val.put_same hK
  refine ⟨fun j c hj => ?_, fun j j' c c' hj hj' e => ?_, fun j c hj => ?_, fun j hj => ?_⟩
  · simp only [Heap.get_set] at hj
    by_cases e : i = j
    · subst e
      simp at hj
      subst hj
      refine ⟨obj ρ b ex, ?_, (lies_row hw).2 ⟨by simp [Val.put], ex, (obj_same hs hb).symm, by simpa [Val.put] using hex⟩⟩
      simp [Val.put]
    · rw [if_neg e] at hj
      obtain ⟨o, h1, h2⟩ := r.blk j c hj
      obtain ⟨k1, k2⟩ := r.known j c hj
      refine ⟨o, ?_, lies_same hs k1 k2 h2⟩
      rw [hs.blk j k1]
      have hlt := r.lt hj
      rw [Array.getElem?_push_lt hlt]
      rw [Array.getElem?_eq_getElem hlt] at h1
      exact h1
  · simp only [Heap.get_set] at hj hj'
    by_cases e1 : i = j <;> by_cases e2 : i = j'
    · left; omega
    · exfalso
      rw [if_neg e2] at hj'
      have := r.lt hj'
      rw [hs.blk j' (r.known _ _ hj').1] at e
      subst e1
      simp [Val.put] at e
      omega
    · exfalso
      rw [if_neg e1] at hj
      have := r.lt hj
      rw [hs.blk j (r.known _ _ hj).1] at e
      subst e2
      simp [Val.put] at e
      omega
    · rw [if_neg e1] at hj
      rw [if_neg e2] at hj'
      rw [hs.blk j (r.known _ _ hj).1, hs.blk j' (r.known _ _ hj').1] at e
      exact r.inj j j' c c' hj hj' e
  · simp only [Heap.get_set] at hj
    by_cases e : i = j
    · subst e
      simp at hj
      subst hj
      exact ⟨.inr rfl, scL_mono (fun _ h => .inl h) _ hb⟩
    · rw [if_neg e] at hj
      obtain ⟨k1, k2⟩ := r.known j c hj
      exact ⟨.inl k1, scL_mono (fun _ h => .inl h) _ k2⟩
  · rcases hj with h | rfl
    · exact r.low j h
    · exact hi
theorem Fr.alloc (h : Fr K0 ρ0 H0 w0 ρ H w L) {i k : Nat} {b : Blk} {o : Obj} (hk : ∀ j, K0 j → K j) (hK : ¬ K i) (hn : H0.n ≤ i) (hw : isWin b = false) :
    Fr K0 ρ0 H0 w0 (ρ.put i w.heap.size k) (H.set i (some b)) { w with heap := w.heap.push o } L := by
  have hs : Same K ρ (ρ.put i w.heap.size k) := Val.put_same hK
  refine ⟨h.same.trans hs hk, h.n, h.os, h.tape, h.output, by have := h.size; simp; omega, fun c hc hn => ?_, fun j hj hg => ?_, fun j hj hl => ?_, fun j d hj hg => ?_, fun j d hg hd => ?_⟩
  · have hlt : c < w.heap.size := Nat.lt_of_lt_of_le hc h.size
    rw [← h.off c hc hn]
    simp [Array.getElem?_push_lt hlt, Array.getElem?_eq_getElem hlt]
  · obtain ⟨c, hg, hc⟩ := hg
    simp only [Heap.get_set] at hg
    by_cases e : i = j
    · subst e
      left
      simp only [Val.put, if_true]
      exact h.size
    · rw [if_neg e] at hg
      have := h.fresh j hj ⟨c, hg, hc⟩
      simp only [Val.put]
      rw [if_neg (Ne.symm e)]
      exact this
  · simp only [Heap.get_set]
    rw [if_neg (by omega)]
    exact h.keeps j hj hl
  · simp only [Heap.get_set] at hg
    rw [if_neg (by rintro rfl; exact hK (hk _ hj))] at hg
    exact h.born j d hj hg
  · simp only [Heap.get_set] at hg
    by_cases e : i = j
    · subst e
      simp at hg
      subst hg
      rw [hw] at hd; cases hd
    · rw [if_neg e] at hg
      exact h.wins j d hg hd

/-- A block of the heap is another one. -/
theorem Reps.store (r : Reps P K ρ H w) {i : Nat} {b c : Blk} {ex : List Value} (hi : H.get i = some b) (hw : isWin b = false) (hwc : isWin c = false) (hc : scL K c.c.list) (hex : fits P (ρ.room i) c ex) :
    Reps P K ρ (H.set i (some c)) { w with heap := w.heap.setIfInBounds (ρ.blk i) (obj ρ c ex) } := by
  have hlt := r.lt hi
  refine ⟨fun j d hj => ?_, fun j j' d d' hj hj' e => ?_, fun j d hj => ?_, r.low⟩
  · simp only [Heap.get_set] at hj
    by_cases e : i = j
    · subst e
      simp at hj
      subst hj
      obtain ⟨_, _, _, h0⟩ := r.row i b hi hw
      exact ⟨obj ρ c ex, by simp [hlt], (lies_row hwc).2 ⟨h0, ex, rfl, hex⟩⟩
    · rw [if_neg e] at hj
      obtain ⟨o, h1, h2⟩ := r.blk j d hj
      refine ⟨o, ?_, h2⟩
      have hne : ρ.blk i ≠ ρ.blk j := fun x => e (r.inj1 i j b d hi hj hw x)
      simp only
      rw [Array.getElem?_setIfInBounds_ne hne]
      exact h1
  · have aux : ∀ {j : Nat} {d : Blk}, (H.set i (some c)).get j = some d → ∃ d', H.get j = some d' ∧ isWin d' = isWin d := by
      intro j d hj
      simp only [Heap.get_set] at hj
      by_cases e : i = j
      · subst e; simp at hj; subst hj; exact ⟨b, hi, hw.trans hwc.symm⟩
      · rw [if_neg e] at hj; exact ⟨d, hj, rfl⟩
    obtain ⟨x, hx, wx⟩ := aux hj
    obtain ⟨y, hy, wy⟩ := aux hj'
    have := r.inj j j' x y hx hy e
    rwa [wx, wy] at this
  · simp only [Heap.get_set] at hj
    by_cases e : i = j
    · subst e
      simp at hj
      subst hj
      exact ⟨(r.known i b hi).1, hc⟩
    · rw [if_neg e] at hj
      exact r.known j d hj
theorem Fr.store (h : Fr K0 ρ0 H0 w0 ρ H w L) (r : Reps P K ρ H w) {i : Nat} {b c : Blk} {o : Obj} (hk : ∀ j, K0 j → K j) (hi : H.get i = some b) (hw : isWin b = false) (hwc : isWin c = false) :
    Fr K0 ρ0 H0 w0 ρ (H.set i (some c)) { w with heap := w.heap.setIfInBounds (ρ.blk i) o } (i :: L) := by
  have hown : own H i := ⟨b, hi, hw⟩
  refine ⟨h.same, h.n, h.os, h.tape, h.output, by simpa using h.size, fun d hd hn => ?_, fun j hj hg => ?_, fun j hj hl => ?_, fun j d hj hg => ?_, fun j d hg hd => ?_⟩
  · have hne : ρ.blk i ≠ d := by
      by_cases hK : K0 i
      · have hb := h.was hK hown
        rw [h.same.blk i hK]
        exact hn i (by simp) hb
      · rcases h.fresh i hK hown with hf | ⟨j, hj, hg, e⟩
        · omega
        · rw [← e]; exact hn j (by simp [hj]) hg
    simp only
    rw [Array.getElem?_setIfInBounds_ne hne]
    exact h.off d hd (fun j hj => hn j (by simp [hj]))
  · have hf : w0.heap.size ≤ ρ.blk j ∨ ∃ k, k ∈ L ∧ own H0 k ∧ ρ0.blk k = ρ.blk j := by
      obtain ⟨q, hg, hq⟩ := hg
      simp only [Heap.get_set] at hg
      by_cases e : i = j
      · subst e; exact h.fresh i hj hown
      · rw [if_neg e] at hg; exact h.fresh j hj ⟨q, hg, hq⟩
    exact hf.imp id (fun ⟨k, a, b⟩ => ⟨k, by simp [a], b⟩)
  · simp only [List.mem_cons, not_or] at hl
    simp only [Heap.get_set]
    rw [if_neg (Ne.symm hl.1)]
    exact h.keeps j hj hl.2
  · simp only [Heap.get_set] at hg
    by_cases e : i = j
    · subst e
      simp at hg
      subst hg
      obtain ⟨d', h1, h2⟩ := h.born i b hj hi
      exact ⟨d', h1, by rw [h2, hw, hwc]⟩
    · rw [if_neg e] at hg; exact h.born j d hj hg
  · simp only [Heap.get_set] at hg
    by_cases e : i = j
    · subst e
      simp at hg
      subst hg
      rw [hwc] at hd; cases hd
    · rw [if_neg e] at hg; exact h.wins j d hg hd
/-- A block is given up. -/
theorem Reps.kill (r : Reps P K ρ H w) (i : Nat) : Reps P K ρ (H.set i none) w := by
  have aux : ∀ {j : Nat} {d : Blk}, (H.set i none).get j = some d → H.get j = some d := by
    intro j d hj
    simp only [Heap.get_set] at hj
    by_cases e : i = j
    · subst e; simp at hj
    · rw [if_neg e] at hj; exact hj
  exact ⟨fun j d hj => r.blk j d (aux hj), fun j j' d d' hj hj' e => r.inj j j' d d' (aux hj) (aux hj') e, fun j d hj => r.known j d (aux hj), r.low⟩
theorem Fr.kill (h : Fr K0 ρ0 H0 w0 ρ H w L) (i : Nat) : Fr K0 ρ0 H0 w0 ρ (H.set i none) w (i :: L) := by
  have aux : ∀ {j : Nat} {d : Blk}, (H.set i none).get j = some d → H.get j = some d := by
    intro j d hj
    simp only [Heap.get_set] at hj
    by_cases e : i = j
    · subst e; simp at hj
    · rw [if_neg e] at hj; exact hj
  refine ⟨h.same, h.n, h.os, h.tape, h.output, h.size, fun d hd hn => h.off d hd (fun j hj => hn j (by simp [hj])), fun j hj ⟨q, hg, hq⟩ => (h.fresh j hj ⟨q, aux hg, hq⟩).imp id (fun ⟨k, a, b⟩ => ⟨k, by simp [a], b⟩), fun j hj hl => ?_, fun j d hj hg => h.born j d hj (aux hg), fun j d hg hd => h.wins j d (aux hg) hd⟩
  simp only [List.mem_cons, not_or] at hl
  simp only [Heap.get_set]
  rw [if_neg (Ne.symm hl.1)]
  exact h.keeps j hj hl.2
end
end Go.Proofs.YtifojacfedjedaaGreat.Ev
end

section
namespace Go.Proofs.YtifojacfedjedaaGreat.Ev
set_option linter.unusedVariables false
set_option linter.unusedSimpArgs false

/-- What an operation does: a value alone; a new block; another block in one's place; a new block in the place of an elder one (a slice that grows). -/
inductive Eff where
  | val (v : Value)
  | new (b : Blk) (v : Value)
  | upd (i : Nat) (b : Blk) (v : Value)
  | grow (i : Option Nat) (b : Blk) (v : Value)

def opnd (T : Nat → Option Value) : Operand → Option Value
  | .tmp t => T t
  | .const v => cond (plain v) (some v) none
  | .func f => some (.func (.func f) #[] #[])
  | .global _ => none

def at_ (id off : Nat) : Value := .pointer (some ⟨id, off, none⟩)

/-- Operations on two whole numbers. -/
def int2 (op : BinOp) (k : IntKind) (x y : Int) : Tree Value :=
  match op with
  | .add => .leaf (.int k (k.wrap (x + y)))
  | .sub => .leaf (.int k (k.wrap (x - y)))
  | .mul => .leaf (.int k (k.wrap (x * y)))
  | .quo => .br (decide (y = 0)) .bad (.leaf (.int k (k.wrap (x.tdiv y))))
  | .rem => .br (decide (y = 0)) .bad (.leaf (.int k (x.tmod y)))
  | .and => .leaf (.int k (k.wrap (BitVec.ofInt k.bits x &&& BitVec.ofInt k.bits y).toNat))
  | .or => .leaf (.int k (k.wrap (BitVec.ofInt k.bits x ||| BitVec.ofInt k.bits y).toNat))
  | .xor => .leaf (.int k (k.wrap (BitVec.ofInt k.bits x ^^^ BitVec.ofInt k.bits y).toNat))
  | .andNot => .leaf (.int k (k.wrap (BitVec.ofInt k.bits x &&& ~~~BitVec.ofInt k.bits y).toNat))
  | .shl => .br (decide (y < 0)) .bad (.leaf (.int k (k.wrap (x * 2 ^ min y.toNat k.bits))))
  | .shr => .br (decide (y < 0)) .bad (.leaf (.int k (x.fdiv (2 ^ min y.toNat k.bits))))
  | .eql => .leaf (.bool (x == y))
  | .neq => .leaf (.bool (x != y))
  | .lss => .leaf (.bool (decide (x < y)))
  | .leq => .leaf (.bool (decide (x ≤ y)))
  | .gtr => .leaf (.bool (decide (x > y)))
  | .geq => .leaf (.bool (decide (x ≥ y)))

theorem int2_ok {op : BinOp} {k k' : IntKind} {x y : Int} {v : Value} (P : Program) (t : TypeId) (w : World) (hk : k = k' ∨ op = .shl ∨ op = .shr) (h : (int2 op k x y).get = some v) :
    (Go.binOp op t (.int k x) (.int k' y)).run P w = .ok v w ∧ ∀ ρ, conc ρ v = v := by
  cases op
  case quo | rem =>
    simp [int2] at h
    obtain ⟨h0, h⟩ := h
    subst h
    simp at hk
    subst hk
    exact ⟨by simp [Go.binOp, Op.intDiv, h0], by simp [conc]⟩
  case shl | shr =>
    simp [int2] at h
    obtain ⟨h0, h⟩ := h
    subst h
    exact ⟨by simp [Go.binOp, Op.shift, Int.not_lt.mpr h0], by simp [conc]⟩
  all_goals
    simp only [int2, Tree.get_leaf, Option.some.injEq] at h
    subst h
    simp at hk
    subst hk
    exact ⟨by simp [Go.binOp, Op.intArith, Op.intBits, Op.intCmp], by simp [conc]⟩

def nth {α : Type} : List α → Nat → Option α
  | [], _ => none
  | x :: _, 0 => some x
  | _ :: l, n + 1 => nth l n
theorem nth_eq {α : Type} (l : List α) (n : Nat) : nth l n = l[n]? := by
  induction l generalizing n with
  | nil => simp [nth]
  | cons x l ih => cases n <;> simp [nth, ih]
/-- So many, from a place on. -/
def takeAt {α : Type} : List α → Nat → Nat → Option (List α)
  | l, 0, 0 => some []
  | [], 0, _ + 1 => none
  | x :: l, 0, n + 1 => match takeAt l 0 n with
    | some r => some (x :: r)
    | none => none
  | [], _ + 1, _ => none
  | _ :: l, k + 1, n => takeAt l k n
theorem takeAt_eq {α : Type} : ∀ (l : List α) (k n : Nat) (r : List α), takeAt l k n = some r → r = (l.drop k).take n ∧ k + n ≤ l.length
  | l, 0, 0, r, h => by simp [takeAt] at h; subst h; simp
  | [], 0, n + 1, r, h => by simp [takeAt] at h
  | x :: l, 0, n + 1, r, h => by
    simp only [takeAt] at h
    cases hr : takeAt l 0 n with
    | none => simp [hr] at h
    | some q =>
      simp [hr] at h
      subst h
      obtain ⟨h1, h2⟩ := takeAt_eq l 0 n q hr
      simp at h1 h2
      simp [h1]
      omega
  | [], k + 1, n, r, h => by simp [takeAt] at h
  | x :: l, k + 1, n, r, h => by
    simp only [takeAt] at h
    obtain ⟨h1, h2⟩ := takeAt_eq l k n r h
    simp [h1]
    omega
/-- Values laid from a place on. -/
def putAt {α : Type} : List α → Nat → List α → Option (List α)
  | l, 0, [] => some l
  | [], 0, _ :: _ => none
  | _ :: l, 0, y :: r => match putAt l 0 r with
    | some q => some (y :: q)
    | none => none
  | [], _ + 1, _ => none
  | x :: l, k + 1, r => match putAt l k r with
    | some q => some (x :: q)
    | none => none
theorem putAt_eq {α : Type} : ∀ (l : List α) (k : Nat) (r q : List α), putAt l k r = some q → q = l.take k ++ r ++ l.drop (k + r.length) ∧ k + r.length ≤ l.length
  | l, 0, [], q, h => by simp [putAt] at h; subst h; simp
  | [], 0, y :: r, q, h => by simp [putAt] at h
  | x :: l, 0, y :: r, q, h => by
    simp only [putAt] at h
    cases hr : putAt l 0 r with
    | none => simp [hr] at h
    | some p =>
      simp [hr] at h
      subst h
      obtain ⟨h1, h2⟩ := putAt_eq l 0 r p hr
      simp at h1 h2
      simp [h1]
      exact h2
  | [], k + 1, r, q, h => by simp [putAt] at h
  | x :: l, k + 1, r, q, h => by
    simp only [putAt] at h
    cases hr : putAt l k r with
    | none => simp [hr] at h
    | some p =>
      simp [hr] at h
      subst h
      obtain ⟨h1, h2⟩ := putAt_eq l k r p hr
      simp [h1, Nat.add_right_comm]
      omega

def aggD : TypeDesc → Bool
  | .struct _ | .array _ _ => true
  | _ => false
/-- Whether two values of a type are the same. -/
def sameF (rec : TypeId → Value → Value → Option Bool) (P : Program) (xs ys : List Value) : List Field → Option Bool
  | [] => some true
  | f :: fs => cond (f.name == "_") (sameF rec P xs ys fs)
    (match P.underlying f.type with
      | some u => cond (aggD u)
        (match P.info? f.type with
        | some i => match takeAt xs f.offset i.size, takeAt ys f.offset i.size with
          | some a, some b => match rec f.type (.agg ⟨a⟩) (.agg ⟨b⟩), sameF rec P xs ys fs with
            | some c, some d => some (c && d)
            | _, _ => none
          | _, _ => none
        | none => none)
        (match nth xs f.offset, nth ys f.offset with
        | some a, some b => match rec f.type a b, sameF rec P xs ys fs with
          | some c, some d => some (c && d)
          | _, _ => none
        | _, _ => none)
      | none => none)
def sameA (rec : TypeId → Value → Value → Option Bool) (el : TypeId) (size : Nat) (xs ys : List Value) : Nat → List Nat → Option Bool
  | _, [] => some true
  | f, j :: l => match nth xs (j * size), nth ys (j * size) with
    | some a, some b => match rec el a b, sameA rec el size xs ys f l with
      | some c, some d => some (c && d)
      | _, _ => none
    | _, _ => none
def same1 (P : Program) : Nat → TypeId → Value → Value → Option Bool
  | 0, _, _, _ => none
  | d + 1, t, x, y => match P.underlying t, x, y with
    | some (.int _), .int k a, .int k' b => cond (decide (k = k')) (some (a == b)) none
    | some .bool, .bool a, .bool b => some (a == b)
    | some .string, .string a, .string b => some (a.toList == b.toList)
    | some (.array len el), .agg xs, .agg ys => match P.underlying el, P.info? el with
      | some u, some i => cond (aggD u) none (sameA (same1 P d) el i.size xs.toList ys.toList 0 (List.range len))
      | _, _ => none
    | some (.struct fs), .agg xs, .agg ys => cond (P.stoodInHeld t) none (sameF (same1 P d) P xs.toList ys.toList fs.toList)
    | _, _, _ => none

section
variable {P : Program}
theorem run_part_agg {t : TypeId} {cs : Array Value} {off : Nat} {i : TypeInfo} {d : TypeDesc} (hu : P.underlying t = some d) (ha : aggD d = true) (hi : P.info? t = some i) (w : World) :
    (part t cs off).run P w = .ok (.agg (cs.extract off (off + i.size))) w := by
  have hagg : (isAgg t).run P w = .ok true w := by
    unfold isAgg
    rw [Sem.run_bind, run_underlying hu w]
    cases d <;> simp_all [aggD]
  simp [part, hagg, sizeOf, typeInfo, hi]
theorem run_part_one {t : TypeId} {cs : Array Value} {off : Nat} {v : Value} {d : TypeDesc} (hu : P.underlying t = some d) (ha : aggD d = false) (hv : cs[off]? = some v) (w : World) :
    (part t cs off).run P w = .ok v w := by
  have hagg : (isAgg t).run P w = .ok false w := by
    unfold isAgg
    rw [Sem.run_bind, run_underlying hu w]
    cases d <;> simp_all [aggD]
  simp [part, hagg, hv]
theorem takeAt_extract {xs : Array Value} {off n : Nat} {r : List Value} (h : takeAt xs.toList off n = some r) : xs.extract off (off + n) = ⟨r⟩ := by
  obtain ⟨h1, h2⟩ := takeAt_eq _ _ _ _ h
  subst h1
  apply Array.ext'
  simp [Array.toList_extract, List.extract]
theorem sameF_ok {d : Nat} (ih : ∀ t x y b w, same1 P d t x y = some b → (Op.equalIn d t x y).run P w = .ok b w) {xs ys : Array Value} :
    ∀ (fs : List Field) (b : Bool) (w : World), sameF (same1 P d) P xs.toList ys.toList fs = some b → (Op.eqFields d xs ys fs).run P w = .ok b w
  | [], b, w, h => by simp [sameF] at h; subst h; simp [Op.eqFields]
  | f :: fs, b, w, h => by
    unfold sameF at h
    cases hn : (f.name == "_") with
    | true =>
      simp only [hn, cond] at h
      have : ¬ (f.name ≠ "_") := by simpa using hn
      simp only [Op.eqFields, if_neg this]
      exact sameF_ok ih fs b w h
    | false =>
      simp only [hn, cond] at h
      have hne : f.name ≠ "_" := by simpa using hn
      simp only [Op.eqFields, if_pos hne]
      cases hu : P.underlying f.type with
      | none => simp [hu] at h
      | some u =>
        simp only [hu] at h
        cases ha : aggD u with
        | true =>
          simp only [ha, cond] at h
          cases hi : P.info? f.type with
          | none => simp [hi] at h
          | some i =>
            simp only [hi] at h
            cases ht : takeAt xs.toList f.offset i.size with
            | none => simp [ht] at h
            | some a =>
              cases ht2 : takeAt ys.toList f.offset i.size with
              | none => simp [ht, ht2] at h
              | some c =>
                simp only [ht, ht2] at h
                cases hs : same1 P d f.type (.agg ⟨a⟩) (.agg ⟨c⟩) with
                | none => simp [hs] at h
                | some r =>
                  cases hr : sameF (same1 P d) P xs.toList ys.toList fs with
                  | none => simp [hs, hr] at h
                  | some q =>
                    simp only [hs, hr, Option.some.injEq] at h
                    subst h
                    simp only [Sem.run_bind, run_part_agg hu ha hi, Result.andThen_ok, takeAt_extract ht, takeAt_extract ht2, ih _ _ _ _ w hs, Sem.run_ite, Sem.run_pure, sameF_ok ih fs q w hr]
                    cases r <;> simp
        | false =>
          simp only [ha, cond] at h
          cases ht : nth xs.toList f.offset with
          | none => simp [ht] at h
          | some a =>
            cases ht2 : nth ys.toList f.offset with
            | none => simp [ht, ht2] at h
            | some c =>
              simp only [ht, ht2] at h
              cases hs : same1 P d f.type a c with
              | none => simp [hs] at h
              | some r =>
                cases hr : sameF (same1 P d) P xs.toList ys.toList fs with
                | none => simp [hs, hr] at h
                | some q =>
                  simp only [hs, hr, Option.some.injEq] at h
                  subst h
                  rw [nth_eq] at ht ht2
                  have h1 : xs[f.offset]? = some a := by simpa using ht
                  have h2 : ys[f.offset]? = some c := by simpa using ht2
                  simp only [Sem.run_bind, run_part_one hu ha h1, run_part_one hu ha h2, Result.andThen_ok, ih _ _ _ _ w hs, Sem.run_ite, Sem.run_pure, sameF_ok ih fs q w hr]
                  cases r <;> simp
theorem sameA_ok {d : Nat} (ih : ∀ t x y b w, same1 P d t x y = some b → (Op.equalIn d t x y).run P w = .ok b w) {el : TypeId} {u : TypeDesc} (hu : P.underlying el = some u) (ha : aggD u = false) {n : Nat} {xs ys : Array Value} {f : Nat} :
    ∀ (l : List Nat) (b : Bool) (w : World), sameA (same1 P d) el n xs.toList ys.toList f l = some b → (Op.eqItems d el n xs ys l).run P w = .ok b w
  | [], b, w, h => by simp [sameA] at h; subst h; simp [Op.eqItems]
  | j :: l, b, w, h => by
    unfold sameA at h
    cases ht : nth xs.toList (j * n) with
    | none => simp [ht] at h
    | some a =>
      cases ht2 : nth ys.toList (j * n) with
      | none => simp [ht, ht2] at h
      | some c =>
        simp only [ht, ht2] at h
        cases hs : same1 P d el a c with
        | none => simp [hs] at h
        | some r =>
          cases hr : sameA (same1 P d) el n xs.toList ys.toList f l with
          | none => simp [hs, hr] at h
          | some q =>
            simp only [hs, hr, Option.some.injEq] at h
            subst h
            rw [nth_eq] at ht ht2
            have h1 : xs[j * n]? = some a := by simpa using ht
            have h2 : ys[j * n]? = some c := by simpa using ht2
            simp only [Op.eqItems, Sem.run_bind, run_part_one hu ha h1, run_part_one hu ha h2, Result.andThen_ok, ih _ _ _ _ w hs, Sem.run_ite, Sem.run_pure, sameA_ok ih hu ha l q w hr]
            cases r <;> simp
theorem same1_ok : ∀ (d : Nat) (t : TypeId) (x y : Value) (b : Bool) (w : World), same1 P d t x y = some b → (Op.equalIn d t x y).run P w = .ok b w
  | 0, t, x, y, b, w, h => by simp [same1] at h
  | d + 1, t, x, y, b, w, h => by
    unfold same1 at h
    split at h
    · rename_i k0 k a k' c hu
      by_cases hk : k = k'
      · subst hk; simp at h; subst h; exact run_equalIn_int w d t k k0 a c hu
      · simp [hk] at h
    · rename_i a c hu
      simp at h; subst h; exact run_equalIn_bool' w d t a c hu
    · rename_i a c hu
      simp at h; subst h; exact run_equalIn_string w d t a c hu
    · rename_i len el xs ys hu
      split at h
      · rename_i u i hue hi
        rw [Bool.cond_eq_ite] at h
        split at h
        · cases h
        · rename_i ha
          have hc : P.cellsOf el = i.size := by simp [Program.cellsOf, hi]
          rw [run_equalIn_array w d xs ys hu hi, hc]
          exact sameA_ok (same1_ok d) hue (by simpa using ha) _ b w h
      · cases h
    · rename_i fs xs ys hu
      cases hp : P.stoodInHeld t with
      | true => simp [hp] at h
      | false =>
        simp only [hp, cond] at h
        have hf : P.fieldsOf t = fs := by simp [Program.fieldsOf, hu]
        rw [run_equalIn_agg w d t xs ys (by rw [hf]; exact hu) hp, hf]
        exact sameF_ok (same1_ok d) fs.toList b w h
    · simp at h
end
end Go.Proofs.YtifojacfedjedaaGreat.Ev
end

section
namespace Go.Proofs.YtifojacfedjedaaGreat.Ev
set_option linter.unusedVariables false
set_option linter.unusedSimpArgs false

def mapO {α β : Type} (f : α → Option β) : List α → Option (List β)
  | [] => some []
  | x :: l => match f x with
    | some y => match mapO f l with
      | some r => some (y :: r)
      | none => none
    | none => none

def partO (e : Operand → Option Value) (p : Nat × Operand) : Option (Nat × Value) := match e p.2 with
  | some v => some (p.1, v)
  | none => none

def isAggT (P : Program) (t : TypeId) : Option Bool := match P.underlying t with
  | some u => some (aggD u)
  | none => none

def doPick (e : Operand → Option Value) (c a b : Operand) : Tree Eff :=
  ofOpt (e c) fun vc => match vc with
    | .bool t => match e a, e b with
      | some (.bool x), some (.bool y) => .leaf (.val (.bool (cond t x y)))
      | x, y => .br t (ofOpt x fun v => .leaf (.val v)) (ofOpt y fun v => .leaf (.val v))
    | _ => .bad

/-- The numbers of cells that are all of one kind. -/
def toInts (k : IntKind) : List Value → Option (List Int)
  | [] => some []
  | .int k' n :: l => cond (decide (k' = k)) (match toInts k l with | some r => some (n :: r) | none => none) none
  | _ => none
def arrKind (P : Program) (t : TypeId) : Option IntKind := match P.underlying t with
  | some (.array _ el) => match P.underlying el with
    | some (.int k) => some k
    | _ => none
  | _ => none
def rowOf (P : Program) (t : TypeId) (l : List Value) : Cells := match arrKind P t with
  | some k => match toInts k l with
    | some ws => .ints k ws
    | none => .vals l
  | none => .vals l
def doAlloc (P : Program) (t : TypeId) (id : Nat) : Tree Eff :=
  match P.info? t with
  | some i => match i.zero with
    | some z => cond (plain z) (.leaf (.new ⟨t, rowOf P t z.cells.toList⟩ (at_ id 0))) .bad
    | none => .bad
  | none => .bad

def wOf (s : Nat) : Nat := s % 1048576 / 4096
def cOf (s : Nat) : Nat := s % 4096
/-- Where a place lies, in cells. -/
def cellOff (off : Nat) : Option Nat → Nat
  | none => off
  | some s => off * wOf s + cOf s
def expandR : Nat → Nat → List Int → List Int
  | 0, _, _ => []
  | n + 1, c, r => r.getD c 0 :: expandR n (c + 1) r
def Fmt.dec : Fmt → Value → Option Int
  | .int k, .int k' n => cond (decide (k' = k)) (some n) none
  | .bool, .bool b => some (cond b 1 0)
  | _, _ => none
/-- Values into a record's cells, from one on. -/
def putR (fs : List Fmt) : Nat → List Value → List Int → Option (List Int)
  | _, [], r => some r
  | c, v :: vs, r => match nth fs c with
    | some f => match f.dec v with
      | some n => putR fs (c + 1) vs (r.set c n)
      | none => none
    | none => none
def toRec : List Fmt → List Value → Option (List Int × List Value)
  | [], l => some ([], l)
  | f :: fs, v :: l => match f.dec v with
    | some n => match toRec fs l with
      | some (r, q) => some (n :: r, q)
      | none => none
    | none => none
  | _, [] => none
def toRecs (fs : List Fmt) : Nat → List Value → Option (List (List Int))
  | _, [] => some []
  | 0, _ => none
  | n + 1, l => match toRec fs l with
    | some (r, q) => match toRecs fs n q with
      | some rs => some (r :: rs)
      | none => none
    | none => none
/-- What records of a type's values are like, where they are all numbers and bools. -/
def fmtOf (P : Program) : Nat → TypeId → Option (List Fmt)
  | 0, _ => none
  | n + 1, t => match P.underlying t with
    | some (.int k) => some [.int k]
    | some .bool => some [.bool]
    | some (.struct fs) => fs.toList.foldr (fun f acc => match fmtOf P n f.type, acc with | some a, some b => some (a ++ b) | _, _ => none) (some [])
    | some (.array len el) => match fmtOf P n el with
      | some a => cond (Nat.ble len 64) (some ((List.replicate len a).flatten)) none
      | none => none
    | _ => none
def noFmt : List Fmt → Bool
  | [] => true
  | _ => false
/-- No cells, of a type. -/
def noCells (P : Program) (el : TypeId) : Cells := match P.underlying el with
  | some (.int k) => .ints k []
  | _ => match fmtOf P 8 el with
    | some fs => cond (noFmt fs) (.vals []) (.recs fs [])
    | none => .vals []
def spotOf : Cells → Option Nat
  | .recs fs _ => some (fs.length * 4096)
  | _ => none
def emptyAt : Option Nat → Bool
  | some s => Nat.ble 1048576 s
  | none => false
/-- Cells of a type's values, packed where they are numbers and bools. -/
def packC (P : Program) (el : TypeId) (l : List Value) : Cells := match noCells P el with
  | .ints k _ => match toInts k l with
    | some ws => .ints k ws
    | none => .vals l
  | .recs fs _ => match toRecs fs l.length l with
    | some rs => .recs fs rs
    | none => .vals l
  | _ => .vals l
/-- So many from a place on are known. -/
def knows (h : List Bool) (o : Nat) : Nat → Bool
  | 0 => true
  | n + 1 => h.getD (o + n) true && knows h o n
/-- So many from a place on are known now. -/
def learn (h : List Bool) (o : Nat) : Nat → List Bool
  | 0 => h
  | n + 1 => (learn h o n).set (o + n) true
/-- So many cells from a place on, as values. -/
def readC (c : Cells) (off : Nat) (sp : Option Nat) (n : Nat) : Tree (List Value) := match c with
  | .vals l => ofOpt (takeAt l (cellOff off sp) n) fun r => .leaf r
  | .ints k ws => cond (n == 1) (.br (decide (cellOff off sp < ws.length)) (.leaf [.int k (ws.getD (cellOff off sp) 0)]) .bad)
    (.br (decide (cellOff off sp + n ≤ ws.length)) (.leaf (((ws.drop (cellOff off sp)).take n).map (.int k))) .bad)
  | .recs fs rs => match sp with
    | some s => cond (wOf s == fs.length) (.br (decide (off < rs.length)) (ofOpt (takeAt (encR fs 0 (rs.getD off [])) (cOf s) n) fun r => .leaf r) .bad) .bad
    | none => .bad
  | .map _ => .bad
  | .part l h => cond (knows h (cellOff off sp) n) (ofOpt (takeAt l (cellOff off sp) n) fun r => .leaf r) .bad
def oneCells : List Value → Bool
  | [] => true
  | v :: l => v.oneCell' && oneCells l
/-- Values into cells, from a place on. -/
def writeC (c : Cells) (off : Nat) (sp : Option Nat) (vs : List Value) : Tree Cells := match c with
  | .vals l => cond (oneCells vs) (ofOpt (putAt l (cellOff off sp) vs) fun r => .leaf (.vals r)) .bad
  | .ints k ws => match vs with
    | [.int k' n] => cond (decide (k' = k)) (.br (decide (cellOff off sp < ws.length)) (.leaf (.ints k (ws.set (cellOff off sp) n))) .bad) .bad
    | vs => ofOpt (toInts k vs) fun r => .br (decide (cellOff off sp + r.length ≤ ws.length)) (.leaf (.ints k (ws.take (cellOff off sp) ++ r ++ ws.drop (cellOff off sp + r.length)))) .bad
  | .recs fs rs => match sp with
    | some s => cond (wOf s == fs.length && Nat.blt 0 vs.length) (.br (decide (off < rs.length)) (ofOpt (putR fs (cOf s) vs (expandR fs.length 0 (rs.getD off []))) fun r => .leaf (.recs fs (rs.set off r))) .bad) .bad
    | none => .bad
  | .part l h => cond (oneCells vs) (ofOpt (putAt l (cellOff off sp) vs) fun r => .leaf (.part r (learn h (cellOff off sp) vs.length))) .bad
  | .map _ => .bad

def doBuild (P : Program) (e : Operand → Option Value) (t : TypeId) (parts : Array (Nat × Operand)) : Tree Eff :=
  ofOpt (mapO (partO e) parts.toList) fun ps =>
    match P.info? t with
    | some i => match i.zero with
      | some z => cond (plain z) (ofOpt (P.built t ps) fun cs => .leaf (.val (.agg cs))) .bad
      | none => .bad
    | none => .bad

def doBuildSlice (P : Program) (e : Operand → Option Value) (t : TypeId) (len : Nat) (parts : Array (Nat × Operand)) (id : Nat) : Tree Eff :=
  ofOpt (mapO (partO e) parts.toList) fun ps =>
    match P.underlying t with
    | some (.slice el) => match P.info? el with
      | some i => match i.zero with
        | some z => cond (plain z && Nat.ble (len * i.size) 100000)
          (match Instr.fill (fun j => some (j * i.size, i.size)) ((Array.range (len * i.size)).map ((cond (len * i.size == 0) #[] z.cells)[· % (cond (len * i.size == 0) #[] z.cells).size]!)) ps with
            | some cs => cond (!emptyAt (spotOf (packC P el cs.toList))) (.leaf (.new ⟨el, packC P el cs.toList⟩ (.slice (some ⟨id, 0, spotOf (packC P el cs.toList)⟩) len len))) .bad
            | none => .bad) .bad
        | none => .bad
      | none => .bad
    | _ => .bad

def doLoad (P : Program) (e : Operand → Option Value) (g : Nat → Option Blk) (t : TypeId) (a : Operand) : Tree Eff :=
  ofOpt (e a) fun va => match va with
    | .pointer (some ⟨i, off, sp⟩) => ofOpt (g i) fun b => ofOpt (isAggT P t) fun ag =>
      cond ag
        (match P.info? t with
          | some ti => (readC b.c off sp ti.size).bind fun r => .leaf (.val (.agg ⟨r⟩))
          | none => .bad)
        ((readC b.c off sp 1).bind fun r => match r with
          | [v] => .leaf (.val v)
          | _ => .bad)
    | _ => .bad

def doStore (P : Program) (e : Operand → Option Value) (g : Nat → Option Blk) (t : TypeId) (a x : Operand) : Tree Eff :=
  ofOpt (e a) fun va => ofOpt (e x) fun vx => match va with
    | .pointer (some ⟨i, off, sp⟩) => ofOpt (g i) fun b => match P.info? t with
      | some ti => cond (vx.cells.size == ti.size) ((writeC b.c off sp vx.cells.toList).bind fun y => .leaf (.upd i ⟨b.t, y⟩ undef)) .bad
      | none => .bad
    | _ => .bad

def doNil (e : Operand → Option Value) (x : Operand) : Tree Eff :=
  ofOpt (e x) fun v => match v with
    | .pointer (some a) => .leaf (.val (.pointer (some a)))
    | .func (.func f) a b => .leaf (.val (.func (.func f) a b))
    | _ => .bad

/-- Whether two values are the same, where that is told by their form. -/
def eqNil : TypeDesc → Value → Value → Option Bool
  | .func _ _ _, .func _ _ _, .nilFunc => some false
  | .func _ _ _, .nilFunc, .func _ _ _ => some false
  | .func _ _ _, .nilFunc, .nilFunc => some true
  | .pointer _, .pointer (some _), .pointer none => some false
  | .pointer _, .pointer none, .pointer (some _) => some false
  | .pointer _, .pointer none, .pointer none => some true
  | .slice _, .slice (some _) _ _, .slice none _ _ => some false
  | .slice _, .slice none _ _, .slice (some _) _ _ => some false
  | .slice _, .slice none _ _, .slice none _ _ => some true
  | .interface _, .iface _ _, .nilIface => some false
  | .interface _, .nilIface, .iface _ _ => some false
  | .bool, .bool a, .bool b => some (a == b)
  | _, _, _ => none
def isShift : BinOp → Bool
  | .shl | .shr => true
  | _ => false
def doBin (P : Program) (e : Operand → Option Value) (op : BinOp) (t : TypeId) (x y : Operand) : Tree Eff :=
  ofOpt (e x) fun a => ofOpt (e y) fun b => match a, b with
    | .int k n, .int k' m => cond (decide (k = k') || isShift op) ((int2 op k n m).bind fun v => .leaf (.val v)) .bad
    | .agg xs, .agg ys => cond (plainA xs && plainA ys && !P.eqGuardType P.depth t) (ofOpt (same1 P 10000 t (.agg xs) (.agg ys)) fun r => match op with
      | .eql => .leaf (.val (.bool r))
      | .neq => .leaf (.val (.bool (!r)))
      | _ => .bad) .bad
    | .string n, .string m => match op with
      | .eql => .leaf (.val (.bool (n.toList == m.toList)))
      | .neq => .leaf (.val (.bool (!(n.toList == m.toList))))
      | .add => .br (decide (((n.size + m.size : Nat) : Int) ≤ IntKind.i64.max)) (.leaf (.val (.string (n ++ m)))) .bad
      | _ => .bad
    | a, b => match P.underlying t with
      | some u => ofOpt (eqNil u a b) fun r => match op with
        | .eql => .leaf (.val (.bool r))
        | .neq => .leaf (.val (.bool (!r)))
        | _ => .bad
      | none => .bad

def doUn (e : Operand → Option Value) (op : UnOp) (x : Operand) : Tree Eff :=
  ofOpt (e x) fun a => match op, a with
    | .not, .bool b => .leaf (.val (.bool !b))
    | .neg, .int k n => .leaf (.val (.int k (k.wrap (0 - n))))
    | .xor, .int k n => (int2 .xor k (cond k.signed (-1) k.max) n).bind fun v => .leaf (.val v)
    | _, _ => .bad

def doConv (P : Program) (e : Operand → Option Value) (s d : TypeId) (x : Operand) : Tree Eff :=
  ofOpt (e x) fun a => match P.underlying s, P.underlying d, a with
    | some (.int _), some (.int k), .int _ n => .leaf (.val (.int k (k.wrap n)))
    | _, _, _ => .bad

def doFieldAddr (P : Program) (e : Operand → Option Value) (s : TypeId) (x : Operand) (f : Nat) : Tree Eff :=
  ofOpt (e x) fun a => match a, P.underlying s with
    | .pointer (some ⟨i, off, none⟩), some (.struct fs) => match nth fs.toList f with
      | some fd => match P.info? fd.type with
        | some ti => cond (ti.size == 0) .bad (.leaf (.val (at_ i (off + fd.offset))))
        | none => .bad
      | none => .bad
    | .pointer (some ⟨i, off, some s⟩), some (.struct fs) => match nth fs.toList f with
      | some fd => match P.info? fd.type with
        | some ti => cond (ti.size == 0 || !Nat.blt (s % 4096 + fd.offset) 4096) .bad (.leaf (.val (.pointer (some ⟨i, off, some (s + fd.offset)⟩))))
        | none => .bad
      | none => .bad
    | _, _ => .bad

def doIndexAddr (P : Program) (e : Operand → Option Value) (t : TypeId) (x ix : Operand) : Tree Eff :=
  ofOpt (e x) fun a => ofOpt (e ix) fun j => match P.underlying t, a, j with
    | some (.slice el), .slice (some ⟨i, off, none⟩) len _, .int _ n => match P.info? el with
      | some ti => .br (decide (0 ≤ n ∧ n < len)) (.leaf (.val (at_ i (off + n.toNat * ti.size)))) .bad
      | none => .bad
    | some (.array len el), .pointer (some ⟨i, off, none⟩), .int _ n => match P.info? el with
      | some ti => .br (decide (0 ≤ n ∧ n < len)) (.leaf (.val (at_ i (off + n.toNat * ti.size)))) .bad
      | none => .bad
    | some (.slice el), .slice (some ⟨i, off, some s⟩) len _, .int _ n => match P.info? el with
      | some ti => cond (s % 4096 == 0) (.br (decide (0 ≤ n ∧ n < len)) (cond (wOf s == ti.size) (.leaf (.val (.pointer (some ⟨i, off + n.toNat, some s⟩))))
        (cond (wOf s == 1) (.leaf (.val (at_ i (off + n.toNat * ti.size)))) .bad)) .bad) .bad
      | none => .bad
    | _, _, _ => .bad

/-- Where a slice of a slice begins. -/
def cutAddr (a : Addr) (size l : Nat) : Option Addr := match a.spot with
  | none => some ⟨a.block, a.off + l * size, none⟩
  | some s => cond (s % 4096 == 0) (cond (wOf s == size) (some ⟨a.block, a.off + l, some s⟩) (cond (wOf s == 1) (some ⟨a.block, a.off + l * size, some s⟩) none)) none
def exactAddr (a : Addr) : Addr := match a.spot with
  | none => ⟨a.block, a.off, some 1052672⟩
  | some s => ⟨a.block, a.off, some (s % 1048576 + 1048576)⟩
def optO (e : Operand → Option Value) : Option Operand → Option (Option Int)
  | none => some none
  | some x => match e x with
    | some (.int _ n) => some (some n)
    | _ => none
def doSlice (P : Program) (e : Operand → Option Value) (t : TypeId) (x : Operand) (low high max : Option Operand) (id : Nat) : Tree Eff :=
  ofOpt (e x) fun v => ofOpt (optO e low) fun lo => ofOpt (optO e high) fun hi => ofOpt (optO e max) fun mx =>
    match P.underlying t, v, mx with
    | some (.slice el), .slice (some a) len cap, none => match P.info? el with
      | some ti => .br (decide (0 ≤ lo.getD 0 ∧ lo.getD 0 ≤ hi.getD len ∧ hi.getD len ≤ cap ∧ len ≤ cap ∧ (lo.getD 0 < cap ∨ lo.getD 0 = 0)))
        (ofOpt (cutAddr a ti.size (lo.getD 0).toNat) fun b => .leaf (.val (.slice (some b) ((hi.getD len).toNat - (lo.getD 0).toNat) (cap - (lo.getD 0).toNat)))) (.br (!exact_ a && decide (0 ≤ lo.getD 0 ∧ lo.getD 0 = hi.getD len ∧ hi.getD len = cap ∧ len ≤ cap)) (.leaf (.val (.slice (some ⟨id, 0, none⟩) 0 0))) .bad)
      | none => .bad
    | some (.slice el), .slice none len cap, none => match P.info? el with
      | some ti => .br (decide (0 ≤ lo.getD 0 ∧ lo.getD 0 ≤ hi.getD len ∧ hi.getD len ≤ cap ∧ len ≤ cap)) (.leaf (.val (.slice none ((hi.getD len).toNat - (lo.getD 0).toNat) (cap - (lo.getD 0).toNat)))) .bad
      | none => .bad
    | some (.slice el), .slice (some a) len cap, some m => match P.info? el, lo, hi with
      | some ti, none, some h => .br (decide (0 ≤ h ∧ h ≤ m ∧ m ≤ cap)) (.leaf (.val (.slice (some (exactAddr a)) h.toNat m.toNat))) .bad
      | _, _, _ => .bad
    | some (.slice el), .slice none len cap, some m => match P.info? el, lo, hi with
      | some ti, none, some h => .br (decide (0 ≤ h ∧ h ≤ m ∧ m ≤ cap)) (.leaf (.val (.slice none h.toNat m.toNat))) .bad
      | _, _, _ => .bad
    | some (.array n el), .pointer (some ⟨i, off, none⟩), none => match P.info? el, lo, hi with
      | some ti, none, none => .leaf (.val (.slice (some ⟨i, off, some 1052672⟩) n n))
      | _, _, _ => .bad
    | some .string, .string s, none => .br (decide (0 ≤ lo.getD 0 ∧ lo.getD 0 ≤ hi.getD s.size ∧ hi.getD s.size ≤ s.size)) (.leaf (.val (.string (s.extract (lo.getD 0).toNat (hi.getD s.size).toNat)))) .bad
    | _, _, _ => .bad

def doIndex (P : Program) (e : Operand → Option Value) (t : TypeId) (x ix : Operand) : Tree Eff :=
  ofOpt (e x) fun v => ofOpt (e ix) fun j => match P.underlying t, v, j with
    | some (.array len el), .agg cs, .int _ n => match P.info? el with
      | some ti => .br (decide (0 ≤ n ∧ n < len)) (ofOpt (isAggT P el) fun ag => cond ag
          (ofOpt (takeAt cs.toList (n.toNat * ti.size) ti.size) fun r => .leaf (.val (.agg ⟨r⟩)))
          (ofOpt (nth cs.toList (n.toNat * ti.size)) fun u => .leaf (.val u))) .bad
      | none => .bad
    | some .string, .string s, .int _ n => .br (decide (0 ≤ n ∧ n < s.size)) (.leaf (.val (.int .u8 (s.get! n.toNat).toNat))) .bad
    | _, _, _ => .bad

def doIface (P : Program) (e : Operand → Option Value) (t : TypeId) (x : Operand) : Tree Eff :=
  ofOpt (e x) fun v => match P.underlying t with
    | some (.interface _) => .bad
    | some _ => .leaf (.val (.iface t v))
    | none => .bad

/-- Whether a type's methods are all that an interface asks for. -/
def gotAll (want : Array (String × TypeId)) (got : Array Method) : Bool := want.toList.all fun p => got.any fun m => m.name == p.1 && m.sig == p.2
def hasAll (P : Program) (want : Array (String × TypeId)) (t : TypeId) : Option Bool := match P.info? t with
  | some i => some (gotAll want i.methods)
  | none => none
def doAssert (P : Program) (e : Operand → Option Value) (x : Operand) (t : TypeId) (ok : Bool) : Tree Eff :=
  ofOpt (e x) fun v => match P.underlying t, P.info? t with
    | some u, some i => match i.zero with
      | some z => cond (plain z)
        (match u, v with
          | .interface want, .iface d y => ofOpt (hasAll P want d) fun h => cond h (.leaf (.val (cond ok (.tuple #[.iface d y, .bool true]) (.iface d y)))) (cond ok (.leaf (.val (.tuple #[z, .bool false]))) .bad)
          | .interface _, .nilIface => cond ok (.leaf (.val (.tuple #[z, .bool false]))) .bad
          | _, .nilIface => cond ok (.leaf (.val (.tuple #[z, .bool false]))) .bad
          | _, .iface d y => cond (Nat.beq d t) (.leaf (.val (cond ok (.tuple #[y, .bool true]) y))) (cond ok (.leaf (.val (.tuple #[z, .bool false]))) .bad)
          | _, _ => .bad) .bad
      | none => .bad
    | _, _ => .bad

/-- A map's entry of a number. -/
def findI (k : IntKind) (n : Int) : List (Value × Value) → Nat → Tree (Option (Nat × Value))
  | [], _ => .leaf none
  | (.int k' m, v) :: es, i => cond (decide (k' = k)) (.br (n == m) (.leaf (some (i, v))) (findI k n es (i + 1))) .bad
  | _ :: _, _ => .bad
def doMakeMap (P : Program) (e : Operand → Option Value) (t : TypeId) (r : Option Operand) (id : Nat) : Tree Eff := match r with
  | none => .leaf (.new ⟨t, .map []⟩ (.map (some id)))
  | some _ => .bad
def entriesOf (g : Nat → Option Blk) : Value → Option (List (Value × Value))
  | .map none => some []
  | .map (some r) => match g r with
    | some ⟨_, .map es⟩ => some es
    | _ => none
  | _ => none
def intKey (P : Program) (t : TypeId) : Option IntKind := match P.underlying t with
  | some (.int k) => some k
  | _ => none
def doLookup (P : Program) (e : Operand → Option Value) (g : Nat → Option Blk) (t : TypeId) (x ix : Operand) (ok : Bool) : Tree Eff :=
  ofOpt (e x) fun m => ofOpt (e ix) fun j => match P.underlying t, j with
    | some (.map key el), .int k n => match intKey P key, P.info? el with
      | some k', some i => match i.zero with
        | some z => cond (decide (k = k') && plain z) (ofOpt (entriesOf g m) fun es => (findI k n es 0).bind fun r => match r with
          | some (_, v) => .leaf (.val (cond ok (.tuple #[v, .bool true]) v))
          | none => .leaf (.val (cond ok (.tuple #[z, .bool false]) z))) .bad
        | none => .bad
      | _, _ => .bad
    | _, _ => .bad
def setE : List (Value × Value) → Nat → Value × Value → List (Value × Value)
  | [], _, _ => []
  | _ :: es, 0, q => q :: es
  | p :: es, i + 1, q => p :: setE es i q
def doMapUpdate (P : Program) (e : Operand → Option Value) (g : Nat → Option Blk) (t : TypeId) (x kx vx : Operand) : Tree Eff :=
  ofOpt (e x) fun m => ofOpt (e kx) fun j => ofOpt (e vx) fun v => match P.underlying t, m, j with
    | some (.map key _), .map (some r), .int k n => match intKey P key, g r with
      | some k', some ⟨bt, .map es⟩ => cond (decide (k = k')) ((findI k n es 0).bind fun q => match q with
          | some (i, _) => .leaf (.upd r ⟨bt, .map (setE es i (.int k n, v))⟩ undef)
          | none => .leaf (.upd r ⟨bt, .map (es ++ [(.int k n, v)])⟩ undef)) .bad
      | _, _ => .bad
    | _, _, _ => .bad

def doField (P : Program) (e : Operand → Option Value) (t : TypeId) (x : Operand) (f : Nat) : Tree Eff :=
  ofOpt (e x) fun a => match P.underlying t, a with
    | some (.struct fs), .agg cs => match nth fs.toList f with
      | some fd => ofOpt (isAggT P fd.type) fun ag => cond ag
        (match P.info? fd.type with
          | some ti => ofOpt (takeAt cs.toList fd.offset ti.size) fun r => .leaf (.val (.agg ⟨r⟩))
          | none => .bad)
        (ofOpt (nth cs.toList fd.offset) fun v => .leaf (.val v))
      | none => .bad
    | _, _ => .bad

def doExtract (e : Operand → Option Value) (x : Operand) (i : Nat) : Tree Eff :=
  ofOpt (e x) fun a => match a with
    | .tuple vs => ofOpt (nth vs.toList i) fun v => .leaf (.val v)
    | _ => .bad

def zeroInt (k : IntKind) : Option Value → Bool
  | some (.int k' z) => decide (k' = k) && z == 0
  | _ => false
def litLe : Int → Nat → Bool
  | .ofNat m, n => Nat.ble m n
  | _, _ => false
/-- So many zero values. -/
def zerosC (c : Cells) (z : Value) (n : Int) : Tree Cells := match c with
  | .ints k _ => cond (zeroInt k (some z)) (.leaf (.ints k (List.replicate n.toNat 0))) .bad
  | .recs fs _ => match toRec fs z.cells.toList with
    | some (r, []) => .leaf (.recs fs (List.replicate n.toNat r))
    | _ => .bad
  | _ => cond (litLe n 4096) (.leaf (.vals ((List.replicate n.toNat z.cells.toList).flatten))) .bad
def doMakeSlice (P : Program) (e : Operand → Option Value) (t : TypeId) (l c : Operand) (id : Nat) : Tree Eff :=
  ofOpt (e l) fun vl => ofOpt (e c) fun vc => match P.underlying t, vl, vc with
    | some (.slice el), .int _ n, .int _ m => match P.info? el with
      | some ti => match ti.zero with
        | some z => cond (z.cells.size == ti.size && plain z)
          (.br (decide (0 ≤ n ∧ n ≤ m ∧ ti.bytes * m ≤ 2 ^ 48 ∧ m < 2 ^ 62)) ((zerosC (noCells P el) z m).bind fun y => cond (!emptyAt (spotOf y)) (.leaf (.new ⟨el, y⟩ (.slice (some ⟨id, 0, spotOf y⟩) n.toNat m.toNat))) .bad) .bad) .bad
        | none => .bad
      | _ => .bad
    | _, _, _ => .bad

/-- So many values' cells, from a place on. -/
def cutC (c : Cells) (off : Nat) (sp : Option Nat) (m size : Nat) : Tree Cells := match c with
  | .vals l => ofOpt (takeAt l (cellOff off sp) (m * size)) fun r => .leaf (.vals r)
  | .ints k ws => .br (decide (cellOff off sp + m * size ≤ ws.length)) (.leaf (.ints k ((ws.drop (cellOff off sp)).take (m * size)))) .bad
  | .recs fs rs => match sp with
    | some s => cond (wOf s == fs.length && cOf s == 0 && size == fs.length) (.br (decide (off + m ≤ rs.length)) (.leaf (.recs fs ((rs.drop off).take m))) .bad) .bad
    | none => .bad
  | .part _ _ => .bad
  | .map _ => .bad
def layInts (k : IntKind) (ws : List Int) (o : Nat) (r : List Int) : Tree Cells := .br (decide (o + r.length ≤ ws.length)) (.leaf (.ints k (ws.take o ++ r ++ ws.drop (o + r.length)))) .bad
def layRecs (fs : List Fmt) (rs : List (List Int)) (o : Nat) (r : List (List Int)) : Tree Cells := .br (decide (o + r.length ≤ rs.length)) (.leaf (.recs fs (rs.take o ++ r ++ rs.drop (o + r.length)))) .bad
/-- Cells with others laid into them. -/
def layC (c : Cells) (off : Nat) (sp : Option Nat) (d : Cells) : Tree Cells := match c, d with
  | .vals l, .vals r => cond (oneCells r) (ofOpt (putAt l (cellOff off sp) r) fun q => .leaf (.vals q)) .bad
  | .ints k ws, .ints k' r => cond (decide (k' = k)) (layInts k ws (cellOff off sp) r) .bad
  | .ints k ws, .vals r => ofOpt (toInts k r) fun r => layInts k ws (cellOff off sp) r
  | .recs fs rs, .recs fs' r => match sp with
    | some s => cond (wOf s == fs.length && cOf s == 0 && decide (fs' = fs)) (layRecs fs rs off r) .bad
    | none => .bad
  | .recs fs rs, .vals r => match sp with
    | some s => cond (wOf s == fs.length && cOf s == 0) (ofOpt (toRecs fs r.length r) fun r => layRecs fs rs off r) .bad
    | none => .bad
  | _, _ => .bad
def noneIn : List Value → Bool
  | [] => true
  | _ => false
/-- Cells, and others behind them. -/
def addC (c d : Cells) : Tree Cells := match c, d with
  | .vals l, .vals r => cond (oneCells r) (.leaf (.vals (l ++ r))) .bad
  | .ints k ws, .ints k' r => cond (decide (k' = k)) (.leaf (.ints k (ws ++ r))) .bad
  | .ints k ws, .vals r => ofOpt (toInts k r) fun r => .leaf (.ints k (ws ++ r))
  | .vals l, .ints k r => cond (noneIn l) (.leaf (.ints k r)) .bad
  | .recs fs rs, .recs fs' r => cond (decide (fs' = fs)) (.leaf (.recs fs (rs ++ r))) .bad
  | .recs fs rs, .vals r => ofOpt (toRecs fs r.length r) fun r => .leaf (.recs fs (rs ++ r))
  | .vals l, .recs fs r => cond (noneIn l) (.leaf (.recs fs r)) .bad
  | _, _ => .bad
def lenC : Cells → Nat
  | .vals l => l.length
  | .ints _ ws => ws.length
  | .recs fs rs => rs.length * fs.length
  | .part _ _ => 0
  | .map _ => 0

def doCopy (P : Program) (g : Nat → Option Blk) (t : TypeId) (d s : Value) : Tree Eff :=
  match P.underlying t, d, s with
  | some (.slice el), .slice (some ⟨i, off, sp⟩) dl _, .slice (some ⟨j, off2, sp2⟩) sl _ => match P.info? el with
    | some ti => ofOpt (g i) fun b => ofOpt (g j) fun c => (cutC c.c off2 sp2 (Nat.min sl dl) ti.size).bind fun x => (layC b.c off sp x).bind fun y => .leaf (.upd i ⟨b.t, y⟩ (.int .i64 (Nat.min sl dl)))
    | none => .bad
  | some (.slice el), .slice _ dl _, .slice _ sl _ => match P.info? el with
    | some ti => cond (Nat.beq dl 0 || Nat.beq sl 0) (.leaf (.val (.int .i64 0))) .bad
    | none => .bad
  | _, _, _ => .bad

/-- The cells of a slice that is appended. -/
def srcC (P : Program) (g : Nat → Option Blk) (size : Nat) : Value → Tree Cells
  | .slice (some ⟨j, off, sp⟩) m _ => ofOpt (g j) fun b => cutC b.c off sp m size
  | _ => .bad
/-- Something is appended to a slice, where there is room. -/
def inPlace (i : Nat) (b : Blk) (off : Nat) (sp : Option Nat) (n c : Nat) (d : Cells) (m size : Nat) : Tree Eff :=
  .br (decide (n + m ≤ c)) (ofOpt (cutAddr ⟨i, off, sp⟩ size n) fun a => (layC b.c a.off a.spot d).bind fun y => .leaf (.upd i ⟨b.t, y⟩ (.slice (some ⟨i, off, sp⟩) (n + m) c))) .bad
/-- Something is appended to a slice. -/
def growC (P : Program) (g : Nat → Option Blk) (id : Nat) (el : TypeId) (ti : TypeInfo) (s : Value) (d : Cells) (m : Nat) : Tree Eff := match s with
  | .slice none 0 0 => .br (decide (m * ti.bytes ≤ 140737488355328 ∧ m ≤ 4611686018427387904)) ((addC (noCells P el) d).bind fun y => cond (!emptyAt (spotOf y)) (.leaf (.grow none ⟨el, y⟩ (.slice (some ⟨id, 0, spotOf y⟩) m m))) .bad) .bad
  | .slice (some ⟨i, off, sp⟩) n c => cond (emptyAt sp)
      (.br (decide (n = 0 ∧ c = 0 ∧ m * ti.bytes ≤ 140737488355328 ∧ m ≤ 4611686018427387904)) ((addC (noCells P el) d).bind fun y => cond (!emptyAt (spotOf y)) (.leaf (.grow none ⟨el, y⟩ (.slice (some ⟨id, 0, spotOf y⟩) m m))) .bad) .bad)
      (ofOpt (g i) fun b => cond (b.t == el && Nat.beq off 0 && decide (sp = spotOf b.c) && !isMap b.c) (.br (decide (c = n ∧ lenC b.c = n * ti.size ∧ (n + m) * ti.bytes ≤ 140737488355328 ∧ n + m ≤ 4611686018427387904))
        ((addC b.c d).bind fun y => cond (decide (spotOf y = spotOf b.c)) (.leaf (.grow (some i) ⟨el, y⟩ (.slice (some ⟨id, 0, spotOf y⟩) (n + m) (n + m)))) .bad) (inPlace i b off sp n c d m ti.size)) (inPlace i b off sp n c d m ti.size))
  | _ => .bad
/-- Nothing is appended. -/
def stayC : Value → Tree Eff
  | .slice none n c => .br (decide (n ≤ c)) (.leaf (.val (.slice none n c))) .bad
  | .slice (some a) n c => .br (decide (n ≤ c)) (.leaf (.val (.slice (some a) n c))) .bad
  | _ => .bad
def doAppend (P : Program) (g : Nat → Option Blk) (id : Nat) (t : TypeId) (s x : Value) : Tree Eff :=
  match P.underlying t, x with
  | some (.slice el), .slice ax m cx => match P.info? el with
    | some ti => match ti.zero with
      | some z => cond (z.cells.size == ti.size) (.br (decide (m = 0)) (stayC s) ((srcC P g ti.size (.slice ax m cx)).bind fun d => growC P g id el ti s d m)) .bad
      | none => .bad
    | none => .bad
  | _, _ => .bad
def doClear (P : Program) (g : Nat → Option Blk) (t : TypeId) (s : Value) : Tree Eff :=
  match P.underlying t, s with
  | some (.slice el), .slice (some ⟨i, off, sp⟩) n _ => match P.info? el with
    | some ti => match ti.zero with
      | some z => cond (z.cells.size == ti.size && plain z) (.br (decide (n = 0)) (.leaf (.val (.tuple #[]))) (ofOpt (g i) fun b => (zerosC b.c z n).bind fun y => (layC b.c off sp y).bind fun y => .leaf (.upd i ⟨b.t, y⟩ (.tuple #[])))) .bad
      | none => .bad
    | none => .bad
  | some (.slice _), .slice none _ _ => .leaf (.val (.tuple #[]))
  | _, _ => .bad

def isSliceT (P : Program) (t : TypeId) : Bool := match P.underlying t with
  | some (.slice _) => true
  | _ => false
def doBuiltin (P : Program) (e : Operand → Option Value) (g : Nat → Option Blk) (id : Nat) (b : Builtin) (ts : Array TypeId) (args : Array Operand) : Tree Eff :=
  ofOpt (mapO e args.toList) fun vs => match b, vs, ts.toList with
    | .len, [.slice _ n _], t :: _ => match P.underlying t with
      | some (.slice _) => .leaf (.val (.int .i64 n))
      | _ => .bad
    | .len, [.string s], t :: _ => match P.underlying t with
      | some .string => .leaf (.val (.int .i64 s.size))
      | _ => .bad
    | .min, [.int k x, .int k' y], _ => .leaf (.val (.int k (if y < x then y else x)))
    | .max, [.int k x, .int k' y], _ => .leaf (.val (.int k (if y > x then y else x)))
    | .copy, [d, s], t :: _ => doCopy P g t d s
    | .clear, [s], [t] => doClear P g t s
    | .append, [s, x], [t, t'] => cond (isSliceT P t') (doAppend P g id t s x) .bad
    | _, _, _ => .bad

def dop0 (P : Program) (op : Op) (e : Operand → Option Value) (g : Nat → Option Blk) (id : Nat) : Tree Eff :=
  match op with
  | .move x | .assign x => ofOpt (e x) fun v => .leaf (.val v)
  | .pick c a b => doPick e c a b
  | .alloc t => doAlloc P t id
  | .box t x => ofOpt (e x) fun v => .leaf (.new ⟨t, .vals v.cells.toList⟩ (at_ id 0))
  | .build t parts => doBuild P e t parts
  | .buildSlice t n parts => doBuildSlice P e t n parts id
  | .load t a => doLoad P e g t a
  | .store t a x => doStore P e g t a x
  | .nilCheck x => doNil e x
  | .binOp op t x y _ => doBin P e op t x y
  | .unOp op _ x => doUn e op x
  | .convert s d x => doConv P e s d x
  | .makeFunc (.func f) a b => ofOpt (mapO e a.toList) fun va => ofOpt (mapO e b.toList) fun vb => .leaf (.val (.func (.func f) ⟨va⟩ ⟨vb⟩))
  | .fieldAddr s x f => doFieldAddr P e s x f
  | .indexAddr t x i => doIndexAddr P e t x i
  | .field t x f => doField P e t x f
  | .extract x i => doExtract e x i
  | .makeSlice t l c => doMakeSlice P e t l c id
  | .slice t x lo hi mx => doSlice P e t x lo hi mx id
  | .index t x i => doIndex P e t x i
  | .makeInterface t x => doIface P e t x
  | .typeAssert x _ t ok => doAssert P e x t ok
  | .makeMap t r => doMakeMap P e t r id
  | .lookup t x i ok => doLookup P e g t x i ok
  | .mapUpdate t m k v => doMapUpdate P e g t m k v
  | .call { callee := .builtin b, args, argTypes } => doBuiltin P e g id b argTypes args
  | _ => .bad

/-- It would write into a window. -/
def effWin : Eff → Bool
  | .val _ => false
  | .new b _ => isWin b
  | .upd _ b _ => isWin b
  | .grow _ b _ => isWin b
def dop (P : Program) (op : Op) (e : Operand → Option Value) (g : Nat → Option Blk) (id : Nat) : Tree Eff :=
  (dop0 P op e g id).bind fun eff => cond (effWin eff) .bad (.leaf eff)
theorem dop_some {P : Program} {op : Op} {e : Operand → Option Value} {g : Nat → Option Blk} {id : Nat} {eff : Eff} (h : (dop P op e g id).get = some eff) : (dop0 P op e g id).get = some eff ∧ effWin eff = false := by
  unfold dop at h
  rw [Tree.get_bind] at h
  cases h0 : (dop0 P op e g id).get with
  | none => simp [h0] at h
  | some x =>
    simp only [h0, Option.bind_some] at h
    cases hw : effWin x with
    | true => simp [hw] at h
    | false => simp [hw] at h; subst h; exact ⟨rfl, hw⟩

/-- Which blocks an operation looks at. -/
def needs (op : Op) (e : Operand → Option Value) : List Nat :=
  match op with
  | .load _ a | .store _ a _ => match e a with
    | some (.pointer (some a)) => [a.block]
    | _ => []
  | .lookup _ x _ _ | .mapUpdate _ x _ _ => match e x with
    | some (.map (some r)) => [r]
    | _ => []
  | .call { callee := .builtin _, args, .. } => args.toList.filterMap fun x => match e x with
    | some (.slice (some a) _ _) => some a.block
    | _ => none
  | _ => []
/-- Which blocks are other ones behind it. -/
def effIds : Eff → List Nat
  | .upd j _ _ => [j]
  | .grow (some j) _ _ => [j]
  | _ => []
def effWr : Eff → Bool
  | .upd _ _ _ => true
  | .grow (some _) _ _ => true
  | _ => false
end Go.Proofs.YtifojacfedjedaaGreat.Ev
end

section
namespace Go.Proofs.YtifojacfedjedaaGreat.Ev
set_option linter.unusedVariables false
set_option linter.unusedSimpArgs false

def Eff.v : Eff → Value
  | .val v => v
  | .new _ v => v
  | .upd _ _ v => v
  | .grow _ _ v => v
/-- The operands are what they are thought to be. -/
def EOk (K : Nat → Prop) (ρ : Val) (e : Operand → Option Value) (act : Operand → Value) : Prop := ∀ x v, e x = some v → act x = conc ρ v ∧ sc K v

def Does (P : Program) (K : Nat → Prop) (ρ : Val) (H : Heap) (w : World) (id : Nat) (ρ' : Val) (w' : World) : Eff → Prop
  | .val v => (ρ' = ρ ∨ v = .slice (some ⟨id, 0, none⟩) 0 0 ∧ ∃ b r s, ρ' = ρ.lay id b r s) ∧ w' = w
  | .new b _ => ∃ k d, ∃ ex : List Value, fits P k b ex ∧ scL K b.c.list ∧ ρ' = ρ.put id w.heap.size k ∧ w' = { w with heap := w.heap.push (obj ρ b ex), drawn := d }
  | .upd i b _ => ∃ old, ∃ ex : List Value, H.get i = some old ∧ isWin old = false ∧ fits P (ρ.room i) b ex ∧ scL K b.c.list ∧ ρ' = ρ ∧ w' = { w with heap := w.heap.setIfInBounds (ρ.blk i) (obj ρ b ex) }
  | .grow i b _ => (∃ k d, ∃ ex : List Value, fits P k b ex ∧ scL K b.c.list ∧ ρ' = ρ.put id w.heap.size k ∧ w' = { w with heap := w.heap.push (obj ρ b ex), drawn := d }) ∨
    (∃ j old k, ∃ ex : List Value, i = some j ∧ H.get j = some old ∧ isWin old = false ∧ fits P k b ex ∧ scL K b.c.list ∧ ρ' = ρ.put id (ρ.blk j) k ∧ w' = { w with heap := w.heap.setIfInBounds (ρ.blk j) (obj ρ b ex) })
def DoOk (P : Program) (K : Nat → Prop) (ρ : Val) (H : Heap) (w : World) (id : Nat) (eff : Eff) (r : Result Next) : Prop :=
  ∃ ρ' w' n, r = .ok n w' ∧ (n = .value (conc ρ' eff.v) ∨ n = .skip ∧ eff.v = undef) ∧ sc (also K id) eff.v ∧ Does P K ρ H w id ρ' w' eff

section
variable {P : Program} {K : Nat → Prop} {ρ : Val} {H : Heap} {w : World} {id : Nat} {e : Operand → Option Value} {act : Operand → Value} {o : Oper} {eff : Eff}

theorem DoOk.ofVal {v : Value} {r : Result Next} (hs : sc K v) (h : r = .ok (.value (conc ρ v)) w) : DoOk P K ρ H w id (.val v) r :=
  ⟨ρ, w, _, h, .inl rfl, sc_mono (fun _ h => .inl h) _ hs, .inl rfl, rfl⟩

theorem cells_conc (v : Value) : (conc ρ v).cells.toList = concL ρ v.cells.toList := by
  cases v with
  | agg cs => obtain ⟨l⟩ := cs; simp [conc, Value.cells, concA]
  | pointer a => cases a <;> simp [conc, Value.cells, concL]
  | slice a l c => cases a <;> simp [conc, Value.cells, concL]
  | map a => cases a <;> simp [conc, Value.cells, concL]
  | _ => simp [conc, Value.cells, concL]
theorem cells_sc {v : Value} (h : sc K v) : scL K v.cells.toList := by
  cases v with
  | agg cs => obtain ⟨l⟩ := cs; simpa [sc, scA, Value.cells] using h
  | pointer a => cases a <;> simpa [Value.cells, scL] using h
  | slice a l c => cases a <;> simpa [Value.cells, scL] using h
  | map a => cases a <;> simpa [Value.cells, scL] using h
  | _ => simpa [Value.cells, scL] using h

theorem ok_box {t : TypeId} {x : Operand} (ho : o.op = .box t x) (he : EOk K ρ e act) (hid : ¬ K id) (h : (dop0 P o.op e H.get id).get = some eff) : DoOk P K ρ H w id eff ((execOp act o).run P w) := by
  rw [ho] at h
  simp only [dop0, get_ofOpt] at h
  cases hx : e x with
  | none => simp [hx] at h
  | some v =>
    simp [hx] at h
    subst h
    obtain ⟨h1, h2⟩ := he x v hx
    refine ⟨ρ.put id w.heap.size 0, _, _, ?_, .inl rfl, ?_, 0, w.drawn, [], ?_, cells_sc h2, rfl, rfl⟩
    · simp only [execOp, ho, Instr.box, newVar, newRow, h1, Sem.run_bind, run_newObj, Result.andThen_ok, Sem.run_pure]
      simp [Eff.v, at_, conc, Val.put, obj, Cells.list, ← cells_conc]
    · simp [Eff.v, at_, sc, also]
    · simp [fits]

theorem toInts_ok {k : IntKind} : ∀ {l : List Value} {r : List Int}, toInts k l = some r → l = r.map (.int k)
  | [], r, h => by simp [toInts] at h; subst h; rfl
  | v :: l, r, h => by
    unfold toInts at h
    split at h
    · rename_i h'; cases h'
    · rename_i k' n l' heq
      cases heq
      rw [Bool.cond_eq_ite] at h
      split at h
      · rename_i hk
        cases hr : toInts k l with
        | none => simp [hr] at h
        | some q =>
          simp [hr] at h
          subst h
          simp at hk
          subst hk
          rw [toInts_ok hr]
          rfl
      · cases h
    · cases h
theorem rowOf_list (t : TypeId) (l : List Value) : (rowOf P t l).list = l := by
  unfold rowOf
  cases arrKind P t with
  | none => rfl
  | some k =>
    simp only
    cases h : toInts k l with
    | none => rfl
    | some ws => exact (toInts_ok h).symm
theorem rowOf_map (t : TypeId) (l : List Value) : isMap (rowOf P t l) = false := by
  unfold rowOf
  cases arrKind P t with
  | none => rfl
  | some k =>
    simp only
    cases h : toInts k l <;> rfl
theorem ok_alloc {t : TypeId} (ho : o.op = .alloc t) (hid : ¬ K id) (h : (dop0 P o.op e H.get id).get = some eff) : DoOk P K ρ H w id eff ((execOp act o).run P w) := by
  rw [ho] at h
  simp only [dop0, doAlloc] at h
  cases hi : P.info? t with
  | none => simp [hi] at h
  | some i =>
    cases hz : i.zero with
    | none => simp [hi, hz] at h
    | some z =>
      simp only [hi, hz] at h
      cases hp : plain z with
      | false => simp [hp] at h
      | true =>
        simp [hp] at h
        subst h
        have hl := rowOf_list (P := P) t z.cells.toList
        have hm := rowOf_map (P := P) t z.cells.toList
        refine ⟨ρ.put id w.heap.size 0, _, _, ?_, .inl rfl, ?_, 0, w.drawn, [], ?_, by rw [hl]; exact cells_sc (sc_plain K z hp), rfl, rfl⟩
        · simp only [execOp, ho, Instr.alloc, zeroValue, typeInfo, newVar, newRow, Sem.run_bind, run_program, run_newObj, Result.andThen_ok, Sem.run_pure, hi, hz]
          rw [obj_cells hm, hl]
          simp [Eff.v, at_, conc, Val.put, ← cells_conc, conc_plain ρ z hp]
        · simp [Eff.v, at_, sc, also]
        · rw [fits_cells hm]; simp

theorem ok_move {x : Operand} (ho : o.op = .move x ∨ o.op = .assign x) (he : EOk K ρ e act) (h : (dop0 P o.op e H.get id).get = some eff) : DoOk P K ρ H w id eff ((execOp act o).run P w) := by
  have h : ((ofOpt (e x) fun v => .leaf (.val v)) : Tree Eff).get = some eff := by rcases ho with ho | ho <;> (rw [ho] at h; exact h)
  simp only [get_ofOpt] at h
  cases hx : e x with
  | none => simp [hx] at h
  | some v =>
    simp [hx] at h
    subst h
    obtain ⟨h1, h2⟩ := he x v hx
    refine DoOk.ofVal h2 ?_
    rcases ho with ho | ho <;> simp [execOp, ho, h1]

theorem ok_pick {c a b : Operand} (ho : o.op = .pick c a b) (he : EOk K ρ e act) (h : (dop0 P o.op e H.get id).get = some eff) : DoOk P K ρ H w id eff ((execOp act o).run P w) := by
  rw [ho] at h
  simp only [dop0, doPick, get_ofOpt] at h
  cases hc : e c with
  | none => simp [hc] at h
  | some vc =>
    simp only [hc, Option.bind_some] at h
    obtain ⟨c1, _⟩ := he c vc hc
    cases vc with
    | bool t =>
      have run : ∀ v, (if t = true then act a else act b) = conc ρ v → (execOp act o).run P w = .ok (.value (conc ρ v)) w := by
        intro v hv
        simp only [execOp, ho, c1, conc, asBool, Sem.run_bind, Sem.run_pure, Result.andThen_ok, hv]
      simp only at h
      split at h
      · rename_i x y ha hb
        simp at h
        subst h
        refine DoOk.ofVal (by simp [sc]) (run _ ?_)
        rw [(he a _ ha).1, (he b _ hb).1]
        cases t <;> simp [conc]
      · rename_i hn
        simp only [Tree.get_br, get_ofOpt] at h
        cases t with
        | true =>
          simp only [if_true] at h
          cases ha : e a with
          | none => simp [ha] at h
          | some v =>
            simp [ha] at h
            subst h
            exact DoOk.ofVal (he a v ha).2 (run _ (by simp [(he a v ha).1]))
        | false =>
          simp only [Bool.false_eq_true, if_false] at h
          cases hb : e b with
          | none => simp [hb] at h
          | some v =>
            simp [hb] at h
            subst h
            exact DoOk.ofVal (he b v hb).2 (run _ (by simp [(he b v hb).1]))
    | _ => simp at h

theorem ok_nil {x : Operand} (ho : o.op = .nilCheck x) (he : EOk K ρ e act) (h : (dop0 P o.op e H.get id).get = some eff) : DoOk P K ρ H w id eff ((execOp act o).run P w) := by
  rw [ho] at h
  simp only [dop0, doNil, get_ofOpt] at h
  cases hx : e x with
  | none => simp [hx] at h
  | some v =>
    simp only [hx, Option.bind_some] at h
    obtain ⟨h1, h2⟩ := he x v hx
    split at h
    · simp at h
      subst h
      exact DoOk.ofVal h2 (by simp [execOp, ho, h1, conc])
    · simp at h
      subst h
      exact DoOk.ofVal h2 (by simp [execOp, ho, h1, conc])
    · simp at h

theorem ok_un {op : UnOp} {t : TypeId} {x : Operand} (ho : o.op = .unOp op t x) (he : EOk K ρ e act) (h : (dop0 P o.op e H.get id).get = some eff) : DoOk P K ρ H w id eff ((execOp act o).run P w) := by
  rw [ho] at h
  simp only [dop0, doUn, get_ofOpt] at h
  cases hx : e x with
  | none => simp [hx] at h
  | some v =>
    simp only [hx, Option.bind_some] at h
    obtain ⟨h1, h2⟩ := he x v hx
    split at h
    · simp at h
      subst h
      exact DoOk.ofVal (by simp [sc]) (by simp [execOp, ho, h1, conc, Op.unary])
    · simp at h
      subst h
      exact DoOk.ofVal (by simp [sc]) (by simp [execOp, ho, h1, conc, Op.unary, Op.intArith])
    · simp [int2] at h
      subst h
      rename_i k n
      exact DoOk.ofVal (by simp [sc]) (by cases hs : k.signed <;> simp [execOp, ho, h1, conc, Op.unary, Op.intBits, hs])
    · simp at h

theorem ok_conv {s d : TypeId} {x : Operand} (ho : o.op = .convert s d x) (he : EOk K ρ e act) (h : (dop0 P o.op e H.get id).get = some eff) : DoOk P K ρ H w id eff ((execOp act o).run P w) := by
  rw [ho] at h
  simp only [dop0, doConv, get_ofOpt] at h
  cases hx : e x with
  | none => simp [hx] at h
  | some v =>
    simp only [hx, Option.bind_some] at h
    obtain ⟨h1, h2⟩ := he x v hx
    split at h
    · rename_i k0 k k1 n hs hd
      simp at h
      subst h
      exact DoOk.ofVal (by simp [sc]) (by simp [execOp, ho, h1, conc, convert, run_underlying hs, run_underlying hd, Conv.intToInt])
    · simp at h

theorem ok_extract {x : Operand} {i : Nat} (ho : o.op = .extract x i) (he : EOk K ρ e act) (h : (dop0 P o.op e H.get id).get = some eff) : DoOk P K ρ H w id eff ((execOp act o).run P w) := by
  rw [ho] at h
  simp only [dop0, doExtract, get_ofOpt] at h
  cases hx : e x with
  | none => simp [hx] at h
  | some v =>
    simp only [hx, Option.bind_some] at h
    obtain ⟨h1, h2⟩ := he x v hx
    split at h
    · rename_i vs
      simp only [get_ofOpt] at h
      cases hn : nth vs.toList i with
      | none => simp [hn] at h
      | some u =>
        simp [hn] at h
        subst h
        rw [nth_eq] at hn
        obtain ⟨l⟩ := vs
        simp at hn
        refine DoOk.ofVal ?_ ?_
        · simp only [sc, scA, scL_iff] at h2
          exact h2 u (List.mem_of_getElem? hn)
        · simp [execOp, ho, h1, conc, concA, concL_eq, Instr.extract, hn]
    · simp at h

theorem mapO_ok {α β : Type} {f : α → Option β} : ∀ {l : List α} {r : List β}, mapO f l = some r → r.length = l.length ∧ ∀ (i : Nat) (x : α), l[i]? = some x → ∃ y, r[i]? = some y ∧ f x = some y
  | [], r, h => by simp [mapO] at h; subst h; simp
  | x :: l, r, h => by
    simp only [mapO] at h
    cases hf : f x with
    | none => simp [hf] at h
    | some y =>
      cases hm : mapO f l with
      | none => simp [hf, hm] at h
      | some q =>
        simp [hf, hm] at h
        subst h
        obtain ⟨h1, h2⟩ := mapO_ok hm
        refine ⟨by simp [h1], fun i z hz => ?_⟩
        cases i with
        | zero => simp at hz; subst hz; exact ⟨y, by simp, hf⟩
        | succ i => simp at hz; simpa using h2 i z hz
theorem mapO_act {l : List Operand} {r : List Value} (he : EOk K ρ e act) (h : mapO e l = some r) : l.map act = concL ρ r ∧ scL K r := by
  induction l generalizing r with
  | nil => simp [mapO] at h; subst h; simp [concL, scL]
  | cons x l ih =>
    simp only [mapO] at h
    cases hf : e x with
    | none => simp [hf] at h
    | some y =>
      cases hm : mapO e l with
      | none => simp [hf, hm] at h
      | some q =>
        simp [hf, hm] at h
        subst h
        obtain ⟨h1, h2⟩ := ih hm
        simp [concL, scL, h1, h2, (he x y hf).1, (he x y hf).2]

theorem ok_func {f : FuncId} {a b : Array Operand} (ho : o.op = .makeFunc (.func f) a b) (he : EOk K ρ e act) (h : (dop0 P o.op e H.get id).get = some eff) : DoOk P K ρ H w id eff ((execOp act o).run P w) := by
  rw [ho] at h
  simp only [dop0, get_ofOpt] at h
  cases ha : mapO e a.toList with
  | none => simp [ha] at h
  | some va =>
    cases hb : mapO e b.toList with
    | none => simp [ha, hb] at h
    | some vb =>
      simp [ha, hb] at h
      subst h
      obtain ⟨a1, a2⟩ := mapO_act he ha
      obtain ⟨b1, b2⟩ := mapO_act he hb
      obtain ⟨la⟩ := a
      obtain ⟨lb⟩ := b
      simp at a1 b1
      refine DoOk.ofVal (by simp [sc, scA, a2, b2]) ?_
      simp [execOp, ho, Instr.makeFunc, conc, concA, a1, b1]

theorem add_at {i off n : Nat} : (⟨i, off, none⟩ : Addr).add n = ⟨i, off + n, none⟩ := by
  unfold Addr.add
  split <;> simp_all

theorem ok_fieldAddr {s : TypeId} {x : Operand} {f : Nat} (ho : o.op = .fieldAddr s x f) (he : EOk K ρ e act) (h : (dop0 P o.op e H.get id).get = some eff) : DoOk P K ρ H w id eff ((execOp act o).run P w) := by
  rw [ho] at h
  simp only [dop0, doFieldAddr, get_ofOpt] at h
  cases hx : e x with
  | none => simp [hx] at h
  | some v =>
    simp only [hx, Option.bind_some] at h
    obtain ⟨h1, h2⟩ := he x v hx
    split at h
    · rename_i i off fs hu
      cases hn : nth fs.toList f with
      | none => simp [hn] at h
      | some fd =>
        simp only [hn] at h
        cases hi : P.info? fd.type with
        | none => simp [hi] at h
        | some ti =>
          simp only [hi] at h
          cases hz : (ti.size == 0) with
          | true => simp [hz] at h
          | false =>
            simp [hz] at h
            subst h
            have hz' : ti.size ≠ 0 := by simpa using hz
            rw [nth_eq] at hn
            have hn' : fs[f]? = some fd := by simpa using hn
            refine DoOk.ofVal (by simpa [at_, sc] using h2) ?_
            simp [execOp, ho, h1, conc, Instr.fieldAt, run_underlying hu, hn', Instr.sureAddr, fieldPlace, sizeOf, typeInfo, hi, hz', at_, add_at]
    · rename_i i off s fs hu
      cases hn : nth fs.toList f with
      | none => simp [hn] at h
      | some fd =>
        simp only [hn] at h
        cases hi : P.info? fd.type with
        | none => simp [hi] at h
        | some ti =>
          simp only [hi] at h
          cases hz : (ti.size == 0 || !Nat.blt (s % 4096 + fd.offset) 4096) with
          | true => simp [hz] at h
          | false =>
            simp [hz] at h
            subst h
            have hz1 : ti.size ≠ 0 ∧ s % 4096 + fd.offset < 4096 := by simpa using hz
            have hz' := hz1.1
            rw [nth_eq] at hn
            have hn' : fs[f]? = some fd := by simpa using hn
            have e1 : (s + fd.offset) % 1048576 / 4096 = s % 1048576 / 4096 := by omega
            have e2 : (s + fd.offset) % 4096 = s % 4096 + fd.offset := by omega
            refine DoOk.ofVal (by simpa [sc] using h2) ?_
            simp [execOp, ho, h1, conc, caddr, Instr.fieldAt, run_underlying hu, hn', Instr.sureAddr, fieldPlace, sizeOf, typeInfo, hi, hz', add_at, e1, e2, Nat.add_assoc]
    · simp at h

theorem ok_field {t : TypeId} {x : Operand} {f : Nat} (ho : o.op = .field t x f) (he : EOk K ρ e act) (h : (dop0 P o.op e H.get id).get = some eff) : DoOk P K ρ H w id eff ((execOp act o).run P w) := by
  rw [ho] at h
  simp only [dop0, doField, get_ofOpt] at h
  cases hx : e x with
  | none => simp [hx] at h
  | some v =>
    simp only [hx, Option.bind_some] at h
    obtain ⟨h1, h2⟩ := he x v hx
    split at h
    · rename_i fs cs hu
      obtain ⟨l⟩ := cs
      simp only [sc, scA, scL_iff] at h2
      cases hn : nth fs.toList f with
      | none => simp [hn] at h
      | some fd =>
        simp only [hn, get_ofOpt, isAggT] at h
        rw [nth_eq] at hn
        have hn' : fs[f]? = some fd := by simpa using hn
        cases hd : P.underlying fd.type with
        | none => simp [hd] at h
        | some u =>
          simp only [hd, Option.bind_some] at h
          cases ha : aggD u with
          | true =>
            simp only [ha, cond] at h
            cases hi : P.info? fd.type with
            | none => simp [hi] at h
            | some ti =>
              simp only [hi, get_ofOpt] at h
              cases ht : takeAt l fd.offset ti.size with
              | none => simp [ht] at h
              | some r =>
                simp [ht] at h
                subst h
                obtain ⟨r1, r2⟩ := takeAt_eq _ _ _ _ ht
                subst r1
                refine DoOk.ofVal ?_ ?_
                · simp only [sc, scA, scL_iff]
                  exact fun v hv => h2 v (List.mem_of_mem_drop (List.mem_of_mem_take hv))
                · simp [execOp, ho, h1, conc, concA, concL_eq, Instr.field, run_underlying hu, hn', asAgg, run_part_agg hd ha hi, List.extract, List.map_drop, List.map_take]
          | false =>
            simp only [ha, cond, get_ofOpt] at h
            cases ht : nth l fd.offset with
            | none => simp [ht] at h
            | some r =>
              simp [ht] at h
              subst h
              rw [nth_eq] at ht
              refine DoOk.ofVal (h2 r (List.mem_of_getElem? ht)) ?_
              have hp : (part fd.type (concA ρ ⟨l⟩) fd.offset).run P w = .ok (conc ρ r) w := run_part_one hd ha (by simp [concA, concL_eq, ht]) w
              simp [execOp, ho, h1, conc, Instr.field, run_underlying hu, hn', asAgg, hp]
    · simp at h
end
end Go.Proofs.YtifojacfedjedaaGreat.Ev
end

section
namespace Go.Proofs.YtifojacfedjedaaGreat.Ev
set_option linter.unusedVariables false
set_option linter.unusedSimpArgs false
section
variable {P : Program} {K : Nat → Prop} {ρ : Val} {H : Heap} {w : World} {id : Nat} {e : Operand → Option Value} {act : Operand → Value} {o : Oper} {eff : Eff}

theorem ok_indexAddr {t : TypeId} {x ix : Operand} (ho : o.op = .indexAddr t x ix) (he : EOk K ρ e act) (h : (dop0 P o.op e H.get id).get = some eff) : DoOk P K ρ H w id eff ((execOp act o).run P w) := by
  rw [ho] at h
  simp only [dop0, doIndexAddr, get_ofOpt] at h
  cases hx : e x with
  | none => simp [hx] at h
  | some v =>
    cases hj : e ix with
    | none => simp [hx, hj] at h
    | some j =>
      simp only [hx, hj, Option.bind_some] at h
      obtain ⟨h1, h2⟩ := he x v hx
      obtain ⟨j1, j2⟩ := he ix j hj
      split at h
      · rename_i el i off len cap k n hu
        cases hi : P.info? el with
        | none => simp [hi] at h
        | some ti =>
          simp only [hi, Tree.get_br] at h
          by_cases hc : 0 ≤ n ∧ n < len
          · simp [hc] at h
            subst h
            refine DoOk.ofVal (by simpa [at_, sc] using h2) ?_
            have hc' : 0 ≤ n ∧ n < (len : Int) := hc
            simp [execOp, ho, h1, j1, conc, Instr.indexAt, asIntOf, run_underlying hu, sizeOf, typeInfo, hi, hc', at_, add_at]
          · simp [hc] at h
      · rename_i len el i off k n hu
        cases hi : P.info? el with
        | none => simp [hi] at h
        | some ti =>
          simp only [hi, Tree.get_br] at h
          by_cases hc : 0 ≤ n ∧ n < len
          · simp [hc] at h
            subst h
            refine DoOk.ofVal (by simpa [at_, sc] using h2) ?_
            have hc' : 0 ≤ n ∧ n < (len : Int) := hc
            simp [execOp, ho, h1, j1, conc, Instr.indexAt, Instr.sureAddr, asIntOf, run_underlying hu, sizeOf, typeInfo, hi, hc', at_, add_at]
          · simp [hc] at h
      · rename_i el i off s len cap k n hu
        cases hi : P.info? el with
        | none => simp [hi] at h
        | some ti =>
          simp only [hi] at h
          cases hs : (s % 4096 == 0) with
          | false => simp [hs] at h
          | true =>
          simp only [hs, cond_true, Tree.get_br] at h
          have hs' : s % 4096 = 0 := by simpa using hs
          by_cases hc : 0 ≤ n ∧ n < len
          · have hc' : 0 ≤ n ∧ n < (len : Int) := hc
            simp only [hc, and_self, decide_true, if_true] at h
            cases hw : (wOf s == ti.size) with
            | true =>
              simp [hw] at h
              subst h
              have hw' : s % 1048576 / 4096 = ti.size := by simpa [wOf] using hw
              refine DoOk.ofVal (by simpa [sc] using h2) ?_
              simp [execOp, ho, h1, j1, conc, caddr, Instr.indexAt, asIntOf, run_underlying hu, sizeOf, typeInfo, hi, hc', add_at, hs', hw', Nat.add_mul]
            | false =>
              simp only [hw, cond_false] at h
              cases hw1 : (wOf s == 1) with
              | false => simp [hw1] at h
              | true =>
                simp [hw1] at h
                subst h
                have hw' : s % 1048576 / 4096 = 1 := by simpa [wOf] using hw1
                refine DoOk.ofVal (by simpa [at_, sc] using h2) ?_
                simp [execOp, ho, h1, j1, conc, caddr, Instr.indexAt, asIntOf, run_underlying hu, sizeOf, typeInfo, hi, hc', at_, add_at, hs', hw']
          · simp [hc] at h
      · simp at h

theorem eql_run {t : TypeId} {a b : Value} {r : Bool} (h : (Op.equalIn 10000 t a b).run P w = .ok r w) :
    ((do pure (.bool (← Op.equal t a b))) : Sem Value).run P w = .ok (.bool r) w ∧ ((do pure (.bool (!(← Op.equal t a b)))) : Sem Value).run P w = .ok (.bool (!r)) w := by
  have h' : (Op.equal t a b).run P w = .ok r w := h
  constructor <;> rw [Sem.run_bind, h'] <;> rfl
theorem eqNil_ok {t : TypeId} {u : TypeDesc} {a b : Value} {r : Bool} (hu : P.underlying t = some u) (h : eqNil u a b = some r) (d : Nat) :
    (Op.equalIn (d + 1) t (conc ρ a) (conc ρ b)).run P w = .ok r w := by
  unfold eqNil at h
  split at h <;> simp at h <;> subst h <;> simp [Op.equalIn, run_underlying hu, conc]
theorem eqNil_bin {t : TypeId} {u : TypeDesc} {a b : Value} {r : Bool} (hu : P.underlying t = some u) (h : eqNil u a b = some r) (x y : Operand) :
    (binOp .eql t (conc ρ a) (conc ρ b)).run P w = .ok (.bool r) w ∧ (binOp .neq t (conc ρ a) (conc ρ b)).run P w = .ok (.bool (!r)) w ∧ ∀ op, (eqGuard op t x y (conc ρ a) (conc ρ b)).run P w = .ok () w := by
  obtain ⟨r1, r2⟩ := eql_run (eqNil_ok (ρ := ρ) (w := w) hu h 9999)
  unfold eqNil at h
  split at h <;> (try simp at h; done) <;> simp only [conc] at r1 r2 ⊢ <;> exact ⟨r1, r2, fun op => by cases op <;> simp [eqGuard]⟩

theorem ok_bin {op : BinOp} {t yt : TypeId} {x y : Operand} (ho : o.op = .binOp op t x y yt) (he : EOk K ρ e act) (h : (dop0 P o.op e H.get id).get = some eff) : DoOk P K ρ H w id eff ((execOp act o).run P w) := by
  rw [ho] at h
  simp only [dop0, doBin, get_ofOpt] at h
  cases hx : e x with
  | none => simp [hx] at h
  | some a =>
    cases hy : e y with
    | none => simp [hx, hy] at h
    | some b =>
      simp only [hx, hy, Option.bind_some] at h
      obtain ⟨a1, a2⟩ := he x a hx
      obtain ⟨b1, b2⟩ := he y b hy
      split at h
      · rename_i k n k' m
        cases hk : (decide (k = k') || isShift op) with
        | false => simp [hk] at h
        | true =>
          simp only [hk, cond, Tree.get_bind] at h
          cases hv : (int2 op k n m).get with
          | none => simp [hv] at h
          | some v =>
            simp [hv] at h
            subst h
            have hk' : k = k' ∨ op = .shl ∨ op = .shr := by
              simp only [Bool.or_eq_true, decide_eq_true_eq] at hk
              rcases hk with hk | hk
              · exact .inl hk
              · right; cases op <;> simp_all [isShift]
            obtain ⟨r1, r2⟩ := int2_ok P t w hk' hv
            have hsc : sc K v := by
              cases op <;> simp [int2] at hv <;> (first | (subst hv; simp [sc]; done) | (obtain ⟨_, rfl⟩ := hv; simp [sc]; done))
            refine DoOk.ofVal hsc ?_
            have hg : (eqGuard op t x y (.int k n) (.int k' m)).run P w = .ok () w := by cases op <;> simp [eqGuard]
            simp [execOp, ho, a1, b1, conc, r1, r2, hg]
      · rename_i xs ys
        rw [Bool.cond_eq_ite] at h
        split at h
        case isFalse => simp at h
        case isTrue hp =>
          simp only [get_ofOpt] at h
          simp only [Bool.and_eq_true, Bool.not_eq_true'] at hp
          cases hs : same1 P 10000 t (.agg xs) (.agg ys) with
          | none => simp [hs] at h
          | some r =>
            simp only [hs, Option.bind_some] at h
            have hg : (eqGuard op t x y (.agg xs) (.agg ys)).run P w = .ok () w := run_eqGuard_agg w op t x y xs ys hp.2
            have big : (Op.equalIn 10000 t (.agg xs) (.agg ys)).run P w = .ok r w := same1_ok 10000 t _ _ r w hs
            split at h
            · simp at h; subst h
              refine DoOk.ofVal (by simp [sc]) ?_
              simp [execOp, ho, a1, b1, conc, concA_plain ρ _ hp.1.1, concA_plain ρ _ hp.1.2, hg, run_eql_struct, big]
            · simp at h; subst h
              refine DoOk.ofVal (by simp [sc]) ?_
              simp [execOp, ho, a1, b1, conc, concA_plain ρ _ hp.1.1, concA_plain ρ _ hp.1.2, hg, run_neq_struct, big]
            · simp at h
      · rename_i n m
        split at h
        · simp at h; subst h
          refine DoOk.ofVal (by simp [sc]) ?_
          simp [execOp, ho, a1, b1, conc, eqGuard, binOp, Op.stringOp]
        · simp at h; subst h
          refine DoOk.ofVal (by simp [sc]) ?_
          simp [execOp, ho, a1, b1, conc, eqGuard, binOp, Op.stringOp]
        · simp at h
          obtain ⟨hle, h⟩ := h
          subst h
          refine DoOk.ofVal (by simp [sc]) ?_
          have hle' : ¬ (IntKind.i64.max < (n.size : Int) + (m.size : Int)) := by
            have : IntKind.i64.max = 9223372036854775807 := rfl
            omega
          simp [execOp, ho, a1, b1, conc, eqGuard, binOp, Op.stringOp, hle']
          exact hle
        · simp at h
      · cases hu : P.underlying t with
        | none => simp [hu] at h
        | some u =>
          simp only [hu, get_ofOpt] at h
          cases hr : eqNil u a b with
          | none => simp [hr] at h
          | some r =>
            simp only [hr, Option.bind_some] at h
            obtain ⟨r1, r2, r3⟩ := eqNil_bin (w := w) (ρ := ρ) hu hr x y
            split at h
            · simp at h; subst h
              refine DoOk.ofVal (by simp [sc]) ?_
              simp [execOp, ho, a1, b1, conc, r1, r3]
            · simp at h; subst h
              refine DoOk.ofVal (by simp [sc]) ?_
              simp [execOp, ho, a1, b1, conc, r2, r3]
            · simp at h
end
end Go.Proofs.YtifojacfedjedaaGreat.Ev
end

section
namespace Go.Proofs.YtifojacfedjedaaGreat.Ev
set_option linter.unusedVariables false
set_option linter.unusedSimpArgs false
section
variable {P : Program} {K : Nat → Prop} {ρ : Val} {H : Heap} {w : World} {id : Nat} {e : Operand → Option Value} {act : Operand → Value} {o : Oper} {eff : Eff}

theorem cells_concA (v : Value) : (conc ρ v).cells = concA ρ v.cells := by
  apply Array.ext'
  rw [cells_conc]
  obtain ⟨l⟩ := v.cells
  simp [concA]
theorem concA_set (cs : Array Value) (i : Nat) (v : Value) : concA ρ (cs.setIfInBounds i v) = (concA ρ cs).setIfInBounds i (conc ρ v) := by
  simp only [concA_eq]
  apply Array.ext'
  simp [List.map_set]
theorem fillOne (off : Nat) : ∀ (l : List (Value × Nat)) (cs : Array Value),
    (l.map fun p => (conc ρ p.1, p.2)).foldl (fun cs (p : Value × Nat) => cs.setIfInBounds (off + p.2) p.1) (concA ρ cs) = concA ρ (l.foldl (fun cs (p : Value × Nat) => cs.setIfInBounds (off + p.2) p.1) cs)
  | [], cs => rfl
  | p :: l, cs => by
    simp only [List.map_cons, List.foldl_cons]
    rw [← concA_set, fillOne off l]
theorem fill_conc (place : Nat → Option (Nat × Nat)) : ∀ (ps : List (Nat × Value)) (cs : Array Value),
    Instr.fill place (concA ρ cs) (ps.map fun p => (p.1, conc ρ p.2)) = (Instr.fill place cs ps).map (concA ρ)
  | [], cs => by simp [Instr.fill]
  | (i, v) :: ps, cs => by
    simp only [List.map_cons, Instr.fill, cells_concA, concA_size]
    cases place i with
    | none => rfl
    | some q =>
      obtain ⟨off, size⟩ := q
      simp only
      split
      · rfl
      · rw [← fill_conc place ps]
        congr 1
        rw [← Array.foldl_toList, ← Array.foldl_toList]
        rw [show (concA ρ v.cells).zipIdx.toList = (v.cells.zipIdx.toList.map fun p => (conc ρ p.1, p.2)) by
          obtain ⟨l⟩ := v.cells
          simp [concA, concL_eq, List.zipIdx_map]]
        exact fillOne off _ cs
theorem setSc {cs : Array Value} {i : Nat} {v : Value} (h : scA K cs) (hv : sc K v) : scA K (cs.setIfInBounds i v) := by
  rw [scA_iff] at *
  intro u hu
  simp at hu
  rcases List.mem_or_eq_of_mem_set hu with hu | rfl
  · exact h u hu
  · exact hv
theorem fillOneSc (off : Nat) : ∀ (l : List (Value × Nat)) (cs : Array Value), (∀ p ∈ l, sc K p.1) → scA K cs → scA K (l.foldl (fun cs (p : Value × Nat) => cs.setIfInBounds (off + p.2) p.1) cs)
  | [], cs, _, h => h
  | p :: l, cs, hl, h => fillOneSc off l _ (fun q hq => hl q (by simp [hq])) (setSc h (hl p (by simp)))
theorem fill_sc (place : Nat → Option (Nat × Nat)) : ∀ (ps : List (Nat × Value)) (cs r : Array Value), (∀ p ∈ ps, sc K p.2) → scA K cs → Instr.fill place cs ps = some r → scA K r
  | [], cs, r, _, h, hr => by simp [Instr.fill] at hr; subst hr; exact h
  | (i, v) :: ps, cs, r, hp, h, hr => by
    simp only [Instr.fill] at hr
    cases hq : place i with
    | none => simp [hq] at hr
    | some q =>
      obtain ⟨off, size⟩ := q
      simp only [hq] at hr
      split at hr
      · simp at hr
      · refine fill_sc place ps _ r (fun p hm => hp p (by simp [hm])) ?_ hr
        rw [← Array.foldl_toList]
        refine fillOneSc off _ cs (fun p hm => ?_) h
        have hv : sc K v := hp (i, v) (by simp)
        have := cells_sc hv
        rw [scL_iff] at this
        obtain ⟨x, j⟩ := p
        have hx : x ∈ v.cells.toList := by
          have := List.mem_iff_getElem?.1 hm
          obtain ⟨m, hm⟩ := this
          simp at hm
          obtain ⟨y, hy, rfl, _⟩ := hm
          exact List.mem_of_getElem? (by simpa using hy)
        exact this x hx
theorem parts_ok {parts : Array (Nat × Operand)} {ps : List (Nat × Value)} (he : EOk K ρ e act) (h : mapO (partO e) parts.toList = some ps) :
    (parts.map fun (i, x) => (i, act x)).toList = (ps.map fun p => (p.1, conc ρ p.2)) ∧ ∀ p ∈ ps, sc K p.2 := by
  obtain ⟨l⟩ := parts
  simp only [List.map_toArray] at h ⊢
  induction l generalizing ps with
  | nil => simp [mapO] at h; subst h; simp
  | cons x l ih =>
    simp only [mapO, partO] at h
    obtain ⟨i, x⟩ := x
    cases hf : e x with
    | none => simp [hf] at h
    | some y =>
      simp only [hf] at h
      cases hm : mapO (partO e) l with
      | none => simp [hm] at h
      | some q =>
        simp [hm] at h
        subst h
        obtain ⟨h1, h2⟩ := ih hm
        refine ⟨by simpa [(he x y hf).1] using h1, fun p hp => ?_⟩
        simp at hp
        rcases hp with rfl | hp
        · exact (he x y hf).2
        · exact h2 p hp

theorem ok_build {t : TypeId} {parts : Array (Nat × Operand)} (ho : o.op = .build t parts) (he : EOk K ρ e act) (h : (dop0 P o.op e H.get id).get = some eff) : DoOk P K ρ H w id eff ((execOp act o).run P w) := by
  rw [ho] at h
  simp only [dop0, doBuild, get_ofOpt] at h
  generalize hm : mapO _ parts.toList = m at h
  cases m with
  | none => simp at h
  | some ps =>
    simp only [Option.bind_some] at h
    obtain ⟨p1, p2⟩ := parts_ok he hm
    cases hi : P.info? t with
    | none => simp [hi] at h
    | some i =>
      cases hz : i.zero with
      | none => simp [hi, hz] at h
      | some z =>
        simp only [hi, hz] at h
        cases hp : plain z with
        | false => simp [hp] at h
        | true =>
          simp only [hp, cond, get_ofOpt] at h
          cases hb : P.built t ps with
          | none => simp [hb] at h
          | some cs =>
            simp [hb] at h
            subst h
            have hzc : concA ρ z.cells = z.cells := by rw [← cells_concA, conc_plain ρ z hp]
            have hzs : scA K z.cells := by
              have := cells_sc (sc_plain K z hp)
              rw [scL_iff] at this
              rw [scA_iff]
              exact this
            have both : P.built t (ps.map fun p => (p.1, conc ρ p.2)) = some (concA ρ cs) ∧ scA K cs := by
              unfold Program.built at hb ⊢
              simp only [hi] at hb ⊢
              cases hu : P.underlying t with
              | none => simp [hu] at hb
              | some u =>
                simp only [hu] at hb ⊢
                cases u <;> simp only [hz] at hb ⊢ <;> try (simp at hb; done)
                case array n el =>
                  cases hie : P.info? el with
                  | none => simp [hie] at hb
                  | some ie =>
                    simp only [hie] at hb ⊢
                    refine ⟨?_, fill_sc _ ps _ _ p2 hzs hb⟩
                    rw [← hzc, fill_conc, hb]; rfl
                case struct fields =>
                  cases hf : fields.toList.mapM (fun f => (P.info? f.type).map fun i => (f.offset, i.size)) with
                  | none => simp [hf] at hb
                  | some places =>
                    simp only [hf] at hb ⊢
                    refine ⟨?_, fill_sc _ ps _ _ p2 hzs hb⟩
                    rw [← hzc, fill_conc, hb]; rfl
            refine DoOk.ofVal (by simpa [sc] using both.2) ?_
            have := run_build w t (parts.map fun (i, x) => (i, act x)) (concA ρ cs) (by rw [p1]; exact both.1)
            simp [execOp, ho, conc, this]

theorem loadCells_ok {b : Nat} {cs : List Value} {t : TypeId} (hb : w.heap[b]? = some (.cells ⟨cs⟩ t (0, 0))) (off n : Nat) (h : off + n ≤ cs.length) :
    (loadCells ⟨b, off, none⟩ n).run P w = .ok ((cs.drop off).take n).toArray w := by
  have hl : ((cs.drop off).take n).length = n := by simp; omega
  have := run_loadCells_list (P := P) w ⟨b, off, none⟩ ((cs.drop off).take n) (fun j v hv => by
    rw [add_at, cell_of_row w b (off + j) ⟨cs⟩ t (0, 0) hb]
    rw [List.getElem?_take] at hv
    split at hv
    · simpa using hv
    · simp at hv)
  rw [hl] at this
  exact this
theorem load_one {b : Nat} {cs : List Value} {t : TypeId} {v : Value} (hb : w.heap[b]? = some (.cells ⟨cs⟩ t (0, 0))) (off : Nat) (h : cs[off]? = some v) :
    (load ⟨b, off, none⟩).run P w = .ok v w := by
  have : w.cell? ⟨b, off, none⟩ = some v := by
    rw [cell_of_row w b off ⟨cs⟩ t (0, 0) hb]
    simpa using h
  simp [this]
theorem cells_load {b : Nat} {l : List Value} {off : Nat} (h : ∀ q v, l[q]? = some v → w.cell? ⟨b, off + q, none⟩ = some v) : (loadCells ⟨b, off, none⟩ l.length).run P w = .ok l.toArray w :=
  run_loadCells_list (P := P) w ⟨b, off, none⟩ l (fun j v hv => by rw [add_at]; exact h j v hv)
theorem cell_load {b : Nat} {v : Value} {off : Nat} (h : w.cell? ⟨b, off, none⟩ = some v) : (load ⟨b, off, none⟩).run P w = .ok v w := by
  simp [h]
theorem run_isAgg {t : TypeId} {u : TypeDesc} (hu : P.underlying t = some u) : (isAgg t).run P w = .ok (aggD u) w := by
  unfold isAgg
  rw [Sem.run_bind, run_underlying hu w]
  cases u <;> simp [aggD]

theorem flat_length {fs : List Fmt} (rs : List (List Int)) : (rs.flatMap (encR fs 0)).length = rs.length * fs.length := by
  induction rs with
  | nil => simp
  | cons r rs ih => simp [ih, Nat.add_mul]; omega
theorem flat_drop {fs : List Fmt} : ∀ (rs : List (List Int)) (a : Nat), (rs.flatMap (encR fs 0)).drop (a * fs.length) = (rs.drop a).flatMap (encR fs 0)
  | rs, 0 => by simp
  | [], a + 1 => by simp
  | r :: rs, a + 1 => by
    rw [List.flatMap_cons, Nat.add_mul, Nat.one_mul, Nat.add_comm, ← List.drop_drop, List.drop_left' (encR_length fs 0 r), List.drop_succ_cons]
    exact flat_drop rs a
theorem flat_take {fs : List Fmt} : ∀ (rs : List (List Int)) (a : Nat), (rs.flatMap (encR fs 0)).take (a * fs.length) = (rs.take a).flatMap (encR fs 0)
  | rs, 0 => by simp
  | [], a + 1 => by simp
  | r :: rs, a + 1 => by
    rw [List.flatMap_cons, Nat.add_mul, Nat.one_mul, Nat.add_comm, List.take_add, List.take_left' (encR_length fs 0 r), List.drop_left' (encR_length fs 0 r), List.take_succ_cons, List.flatMap_cons, flat_take rs a]
/-- The cells within one record. -/
theorem flat_part {fs : List Fmt} {rs : List (List Int)} {a c n : Nat} (ha : a < rs.length) (hc : c + n ≤ fs.length) :
    a * fs.length + c + n ≤ (rs.flatMap (encR fs 0)).length ∧ ((rs.flatMap (encR fs 0)).drop (a * fs.length + c)).take n = ((encR fs 0 (rs.getD a [])).drop c).take n := by
  have h1 : (a + 1) * fs.length ≤ rs.length * fs.length := Nat.mul_le_mul_right _ ha
  rw [Nat.add_mul, Nat.one_mul] at h1
  refine ⟨by rw [flat_length]; omega, ?_⟩
  rw [← List.drop_drop, flat_drop, List.drop_eq_getElem_cons ha, List.flatMap_cons]
  rw [List.drop_append_of_le_length (by simp; omega), List.take_append_of_le_length (by simp; omega)]
  simp [List.getD_eq_getElem?_getD, ha]
theorem ofOpt_some {α β : Type} {o : Option α} {k : α → Tree β} {b : β} (h : (ofOpt o k).get = some b) : ∃ a, o = some a ∧ (k a).get = some b := by
  rw [get_ofOpt] at h
  cases o with
  | none => simp at h
  | some a => exact ⟨a, rfl, by simpa using h⟩
theorem cond_some {β : Type} {c : Bool} {t : Tree β} {b : β} (h : (cond c t .bad).get = some b) : c = true ∧ t.get = some b := by
  cases c with
  | true => exact ⟨rfl, h⟩
  | false => simp at h
theorem br_some {β : Type} {p : Prop} [Decidable p] {t : Tree β} {b : β} (h : (Tree.br (decide p) t .bad).get = some b) : p ∧ t.get = some b := by
  rw [Tree.get_br] at h
  by_cases hp : p
  · exact ⟨hp, by simpa [hp] using h⟩
  · simp [hp] at h
theorem knows_ok {h : List Bool} {o : Nat} : ∀ {n : Nat}, knows h o n = true → ∀ j, o ≤ j → j < o + n → h.getD j true = true
  | 0, _, j, h1, h2 => by omega
  | n + 1, hk, j, h1, h2 => by
    simp only [knows, Bool.and_eq_true] at hk
    by_cases e : j = o + n
    · subst e; exact hk.1
    · exact knows_ok hk.2 j h1 (by omega)
/-- What is read, lies there. -/
theorem readC_ok {c : Cells} {off n : Nat} {sp : Option Nat} {r : List Value} (h : (readC c off sp n).get = some r) : (∀ j, cellOff off sp ≤ j → j < cellOff off sp + n → seen c j) ∧ cellOff off sp + n ≤ c.list.length ∧ r = (c.list.drop (cellOff off sp)).take n := by
  cases c with
  | vals l =>
    simp only [readC] at h
    obtain ⟨q, hq, h⟩ := ofOpt_some h
    simp at h
    subst h
    obtain ⟨h1, h2⟩ := takeAt_eq _ _ _ _ hq
    exact ⟨fun _ _ _ => .inl rfl, h2, h1⟩
  | ints k ws =>
    simp only [readC] at h
    cases hn : (n == 1) with
    | true =>
      simp only [hn, cond_true] at h
      obtain ⟨hp, h⟩ := br_some h
      simp at h
      subst h
      have hn' : n = 1 := by simpa using hn
      subst hn'
      refine ⟨fun _ _ _ => .inl rfl, by simp [Cells.list]; omega, ?_⟩
      simp only [Cells.list]
      rw [List.drop_eq_getElem_cons (by simpa using hp)]
      simp [List.getD_eq_getElem?_getD, hp]
    | false =>
      simp only [hn, cond_false] at h
      obtain ⟨hp, h⟩ := br_some h
      simp at h
      subst h
      exact ⟨fun _ _ _ => .inl rfl, by simpa [Cells.list] using hp, by simp [Cells.list, List.map_take, List.map_drop]⟩
  | recs fs rs =>
    simp only [readC] at h
    cases sp with
    | none => simp at h
    | some s =>
      simp only at h
      obtain ⟨hw, h⟩ := cond_some h
      obtain ⟨hp, h⟩ := br_some h
      obtain ⟨q, hq, h⟩ := ofOpt_some h
      simp at h
      subst h
      obtain ⟨h1, h2⟩ := takeAt_eq _ _ _ _ hq
      have hw' : wOf s = fs.length := by simpa using hw
      simp only [encR_length] at h2
      obtain ⟨q1, q2⟩ := flat_part hp h2
      simp only [Cells.list, cellOff, hw']
      exact ⟨fun _ _ _ => .inl rfl, q1, by rw [h1, q2]⟩
  | map es => simp [readC] at h
  | part l m =>
    simp only [readC] at h
    obtain ⟨hk, h⟩ := cond_some h
    obtain ⟨q, hq, h⟩ := ofOpt_some h
    simp at h
    subst h
    obtain ⟨h1, h2⟩ := takeAt_eq _ _ _ _ hq
    exact ⟨fun j j1 j2 => .inr ⟨l, m, rfl, knows_ok hk j j1 j2⟩, h2, h1⟩
theorem caddr_eq (i off : Nat) (sp : Option Nat) : caddr ρ ⟨i, off, sp⟩ = ⟨ρ.blk i, ρ.start i + cellOff off sp, none⟩ := by
  cases sp <;> rfl
/-- A part of a block's cells, as they lie in a world. -/
theorem Reps.piece (r : Reps P K ρ H w) {i : Nat} {b : Blk} (h : H.get i = some b) {o n q : Nat} {v : Value} (hm : ∀ j, o ≤ j → j < o + n → seen b.c j) (hv : (concL ρ ((b.c.list.drop o).take n))[q]? = some v) :
    w.cell? ⟨ρ.blk i, ρ.start i + o + q, none⟩ = some v := by
  rw [concL_eq, List.map_take, List.map_drop, List.getElem?_take] at hv
  split at hv
  · rw [List.getElem?_drop, List.getElem?_map] at hv
    cases hq : b.c.list[o + q]? with
    | none => simp [hq] at hv
    | some u =>
      simp [hq] at hv
      subst hv
      rw [Nat.add_assoc]
      exact r.cell h (hm (o + q) (by omega) (by omega)) hq
  · cases hv

theorem ok_load {t : TypeId} {x : Operand} (ho : o.op = .load t x) (he : EOk K ρ e act) (hr : Reps P K ρ H w) (h : (dop0 P o.op e H.get id).get = some eff) : DoOk P K ρ H w id eff ((execOp act o).run P w) := by
  rw [ho] at h
  simp only [dop0, doLoad, get_ofOpt] at h
  cases hx : e x with
  | none => simp [hx] at h
  | some v =>
    simp only [hx, Option.bind_some] at h
    obtain ⟨h1, h2⟩ := he x v hx
    split at h
    · rename_i i off sp
      simp only [get_ofOpt] at h
      cases hg : H.get i with
      | none => simp [hg] at h
      | some b =>
        simp only [hg, Option.bind_some, isAggT] at h
        obtain ⟨hk, hsc⟩ := hr.known i b hg
        rw [scL_iff] at hsc
        cases hu : P.underlying t with
        | none => simp [hu] at h
        | some u =>
          simp only [hu, Option.bind_some] at h
          cases ha : aggD u with
          | true =>
            simp only [ha, cond] at h
            split at h
            · rename_i ti hi
              rw [Tree.get_bind] at h
              cases hq : (readC b.c off sp ti.size).get with
              | none => simp [hq] at h
              | some r =>
                simp [hq] at h
                subst h
                obtain ⟨hm, r2, r1⟩ := readC_ok hq
                subst r1
                refine DoOk.ofVal ?_ ?_
                · simp only [sc, scA, scL_iff]
                  exact fun v hv => hsc v (List.mem_of_mem_drop (List.mem_of_mem_take hv))
                · have := cells_load (P := P) (w := w) (b := ρ.blk i) (off := ρ.start i + cellOff off sp) (l := concL ρ ((b.c.list.drop (cellOff off sp)).take ti.size)) (fun q v hv => hr.piece hg hm hv)
                  rw [concL_length, List.length_take, List.length_drop, Nat.min_eq_left (by omega)] at this
                  simp only [execOp, ho, h1, conc, caddr_eq, Instr.loadAt, Instr.sureAddr, loadVar, Sem.run_bind, Sem.run_pure, Result.andThen_ok, run_isAgg hu, ha, if_true, sizeOf, typeInfo, run_program, hi, this]
                  simp [concA]
            · simp at h
          | false =>
            simp only [ha, cond] at h
            rw [Tree.get_bind] at h
            cases hq : (readC b.c off sp 1).get with
            | none => simp [hq] at h
            | some r =>
              simp only [hq, Option.bind_some] at h
              obtain ⟨hm, r2, r1⟩ := readC_ok hq
              split at h
              · rename_i v
                simp at h
                subst h
                have hlt : cellOff off sp < b.c.list.length := by omega
                have hv : b.c.list[cellOff off sp]? = some v := by
                  have := congrArg (fun l : List Value => l[0]?) r1
                  simpa [List.getElem?_drop] using this.symm
                refine DoOk.ofVal (hsc v (List.mem_of_getElem? hv)) ?_
                have := cell_load (P := P) (hr.cell hg (hm _ (Nat.le_refl _) (by omega)) hv)
                simp only [execOp, ho, h1, conc, caddr_eq, Instr.loadAt, Instr.sureAddr, loadVar, Sem.run_bind, Sem.run_pure, Result.andThen_ok, run_isAgg hu, ha, Bool.false_eq_true, if_false, this]
                try simp
              · simp at h
    · simp at h
end
end Go.Proofs.YtifojacfedjedaaGreat.Ev
end

section
namespace Go.Proofs.YtifojacfedjedaaGreat.Ev
set_option linter.unusedVariables false
set_option linter.unusedSimpArgs false
section
variable {P : Program} {K : Nat → Prop} {ρ : Val} {H : Heap} {w : World} {id : Nat} {e : Operand → Option Value} {act : Operand → Value} {o : Oper} {eff : Eff}

theorem leaf_ne {α β : Type} {t : Tree α} {k : α → Tree β} {b : β} (h : (t.bind k).get = some b) : ∃ a, t.get = some a ∧ (k a).get = some b := by
  rw [Tree.get_bind] at h
  cases ha : t.get with
  | none => simp [ha] at h
  | some a => exact ⟨a, rfl, by simpa [ha] using h⟩
theorem opt_ne {α β : Type} {o : Option α} {k : α → Tree β} {b : β} (h : (ofOpt o k).get = some b) : ∃ a, o = some a ∧ (k a).get = some b := by
  rw [get_ofOpt] at h
  cases o with
  | none => simp at h
  | some a => exact ⟨a, rfl, by simpa using h⟩
theorem cond_ne {β : Type} {c : Bool} {t : Tree β} {b : β} (h : (cond c t .bad).get = some b) : c = true ∧ t.get = some b := by
  cases c with
  | true => exact ⟨rfl, h⟩
  | false => simp at h
theorem br_ne {β : Type} {p : Prop} [Decidable p] {t : Tree β} {b : β} (h : (Tree.br (decide p) t .bad).get = some b) : p ∧ t.get = some b := by
  rw [Tree.get_br] at h
  by_cases hp : p
  · exact ⟨hp, by simpa [hp] using h⟩
  · simp [hp] at h

theorem one_enc (f : Fmt) (n : Int) : (f.enc n).oneCell' = true := by cases f <;> rfl
theorem one_encR (fs : List Fmt) : ∀ (c : Nat) (r : List Int), ∀ v ∈ encR fs c r, v.oneCell' = true := by
  induction fs with
  | nil => intro c r v hv; simp [encR] at hv
  | cons f fs ih =>
    intro c r v hv
    simp only [encR, List.mem_cons] at hv
    rcases hv with rfl | hv
    · exact one_enc f _
    · exact ih _ _ v hv
theorem one_flat {fs : List Fmt} {rs : List (List Int)} : ∀ v ∈ rs.flatMap (encR fs 0), v.oneCell' = true := by
  intro v hv
  obtain ⟨r, _, hv⟩ := List.mem_flatMap.1 hv
  exact one_encR fs 0 r v hv
theorem one_ints {k : IntKind} {r : List Int} : ∀ v ∈ r.map (Value.int k), v.oneCell' = true := by
  intro v hv
  obtain ⟨_, _, rfl⟩ := List.mem_map.1 hv
  rfl
theorem one_all : ∀ {l : List Value}, oneCells l = true → ∀ v ∈ l, v.oneCell' = true := by
  intro l
  induction l with
  | nil => simp
  | cons v l ih => intro h u hu; simp [oneCells] at h; simp at hu; rcases hu with rfl | hu; exact h.1; exact ih h.2 u hu
theorem dec_ok {f : Fmt} {v : Value} {n : Int} (h : f.dec v = some n) : v = f.enc n := by
  cases f <;> cases v <;> simp [Fmt.dec] at h
  · rename_i k k' m
    rw [Bool.cond_eq_ite] at h
    split at h
    · rename_i hk
      simp at hk h
      simp [Fmt.enc, hk, h]
    · cases h
  · rename_i b
    subst h
    cases b <;> rfl
theorem encR_cons (fs : List Fmt) (n : Int) (r : List Int) : ∀ c, encR fs (c + 1) (n :: r) = encR fs c r := by
  induction fs with
  | nil => intro c; rfl
  | cons f fs ih => intro c; simp [encR, ih]
theorem toRec_ok : ∀ {fs : List Fmt} {l : List Value} {r : List Int} {q : List Value}, toRec fs l = some (r, q) → l = encR fs 0 r ++ q
  | [], l, r, q, h => by simp [toRec] at h; obtain ⟨rfl, rfl⟩ := h; rfl
  | f :: fs, [], r, q, h => by simp [toRec] at h
  | f :: fs, v :: l, r, q, h => by
    simp only [toRec] at h
    cases hd : f.dec v with
    | none => simp [hd] at h
    | some n =>
      simp only [hd] at h
      cases hr : toRec fs l with
      | none => simp [hr] at h
      | some p =>
        obtain ⟨r', q'⟩ := p
        simp only [hr, Option.some.injEq, Prod.mk.injEq] at h
        obtain ⟨rfl, rfl⟩ := h
        rw [toRec_ok hr, dec_ok hd]
        simp [encR, encR_cons]
theorem toRecs_ok {fs : List Fmt} : ∀ {n : Nat} {l : List Value} {rs : List (List Int)}, toRecs fs n l = some rs → l = rs.flatMap (encR fs 0)
  | 0, [], rs, h => by simp [toRecs] at h; subst h; rfl
  | n + 1, [], rs, h => by simp [toRecs] at h; subst h; rfl
  | 0, v :: l, rs, h => by simp [toRecs] at h
  | n + 1, v :: l, rs, h => by
    simp only [toRecs] at h
    cases hr : toRec fs (v :: l) with
    | none => simp [hr] at h
    | some p =>
      obtain ⟨r, q⟩ := p
      simp only [hr] at h
      cases hq : toRecs fs n q with
      | none => simp [hq] at h
      | some rs' =>
        simp [hq] at h
        subst h
        rw [toRec_ok hr, toRecs_ok hq]
        simp
theorem expandR_length : ∀ (n c : Nat) (r : List Int), (expandR n c r).length = n
  | 0, _, _ => rfl
  | n + 1, c, r => by simp [expandR, expandR_length n]
theorem expandR_get : ∀ (n c j : Nat) (r : List Int), (expandR n c r).getD j 0 = if j < n then r.getD (c + j) 0 else 0
  | 0, _, _, _ => by simp [expandR]
  | n + 1, c, 0, r => by simp [expandR]
  | n + 1, c, j + 1, r => by
    simp only [expandR, List.getD_cons_succ]
    rw [expandR_get n (c + 1) j r]
    simp [Nat.add_assoc, Nat.add_comm 1 j]
theorem encR_get : ∀ (fs : List Fmt) (c j : Nat) (r : List Int), (encR fs c r)[j]? = (fs[j]?).map fun f => f.enc (r.getD (c + j) 0)
  | [], c, j, r => by simp [encR]
  | f :: fs, c, 0, r => by simp [encR]
  | f :: fs, c, j + 1, r => by
    simp only [encR, List.getElem?_cons_succ]
    rw [encR_get fs (c + 1) j r]
    simp [Nat.add_assoc, Nat.add_comm 1 j]
theorem putR_ok {fs : List Fmt} : ∀ {vs : List Value} {c : Nat} {r q : List Int}, r.length = fs.length → putR fs c vs r = some q →
    q.length = fs.length ∧ c + vs.length ≤ max c fs.length ∧ encR fs 0 q = (encR fs 0 r).take c ++ vs ++ (encR fs 0 r).drop (c + vs.length) ∧ ∀ v ∈ vs, v.oneCell' = true
  | [], c, r, q, hr, h => by
    simp [putR] at h
    subst h
    refine ⟨hr, by simp; omega, by simp, by simp⟩
  | v :: vs, c, r, q, hr, h => by
    simp only [putR] at h
    cases hf : nth fs c with
    | none => simp [hf] at h
    | some f =>
      simp only [hf] at h
      cases hd : f.dec v with
      | none => simp [hd] at h
      | some n =>
        simp only [hd] at h
        rw [nth_eq] at hf
        have hc : c < fs.length := (List.getElem?_eq_some_iff.1 hf).1
        obtain ⟨h1, h2, h3, h4⟩ := putR_ok (c := c + 1) (r := r.set c n) (by simpa using hr) h
        have hv := dec_ok hd
        have hset : encR fs 0 (r.set c n) = (encR fs 0 r).set c v := by
          apply List.ext_getElem?
          intro j
          rw [encR_get, List.getElem?_set, encR_get]
          by_cases hj : c = j
          · subst hj
            have : c < r.length := by omega
            have hf2 := (List.getElem?_eq_some_iff.1 hf).2
            simp [hv, this, hc, hf2]
          · simp only [Nat.zero_add, List.getD_eq_getElem?_getD, List.getElem?_set, if_neg hj]
        refine ⟨h1, by simp; omega, ?_, ?_⟩
        · rw [h3, hset]
          have hlen : (encR fs 0 r).length = fs.length := encR_length fs 0 r
          apply List.ext_getElem?
          intro j
          simp only [List.getElem?_append, List.length_append, List.length_take, List.length_set, hlen, List.getElem?_take, List.getElem?_set, List.getElem?_drop, List.length_cons, show min (c + 1) fs.length = c + 1 by omega, show min c fs.length = c by omega]
          by_cases j1 : j < c
          · simp [j1, show j < c + 1 + vs.length by omega, show j < c + 1 by omega, show c ≠ j by omega, show j < c + (vs.length + 1) by omega]
          · by_cases j2 : j = c
            · subst j2
              simp [hc, show j < j + 1 + vs.length by omega]
            · by_cases j3 : j < c + 1 + vs.length
              · simp [j1, j3, show ¬ j < c + 1 by omega, show j < c + (vs.length + 1) by omega]
                rw [show j - c = j - (c + 1) + 1 by omega, List.getElem?_cons_succ]
              · simp [j3, show ¬ j < c + (vs.length + 1) by omega, show ¬ c = c + 1 + vs.length + (j - (c + 1 + vs.length)) by omega]
                congr 1
                omega
        · intro u hu
          simp only [List.mem_cons] at hu
          rcases hu with rfl | hu
          · rw [hv]; exact one_enc f n
          · exact h4 u hu
theorem flat_set {fs : List Fmt} : ∀ {rs : List (List Int)} {a : Nat} {q : List Int}, a < rs.length → (rs.set a q).flatMap (encR fs 0) = (rs.flatMap (encR fs 0)).take (a * fs.length) ++ encR fs 0 q ++ (rs.flatMap (encR fs 0)).drop (a * fs.length + fs.length)
  | [], a, q, h => by simp at h
  | r :: rs, 0, q, h => by
    simp only [List.set_cons_zero, List.flatMap_cons, Nat.zero_mul, List.take_zero, List.nil_append, Nat.zero_add]
    rw [List.drop_left' (encR_length fs 0 r)]
  | r :: rs, a + 1, q, h => by
    simp only [List.set_cons_succ, List.flatMap_cons]
    rw [flat_set (by simpa using h)]
    rw [show (a + 1) * fs.length = (encR fs 0 r).length + a * fs.length by rw [encR_length, Nat.add_mul, Nat.one_mul, Nat.add_comm]]
    rw [Nat.add_assoc (encR fs 0 r).length, List.take_length_add_append, List.drop_length_add_append]
    simp [List.append_assoc]
theorem writeC_ok {c y : Cells} {off : Nat} {sp : Option Nat} {vs : List Value} (h : (writeC c off sp vs).get = some y) : ((isMap c = false ∧ isMap y = false) ∨ ∃ l m, c = .part l m ∧ y = .part y.list (learn m (cellOff off sp) vs.length)) ∧ cellOff off sp + vs.length ≤ c.list.length ∧
    y.list = c.list.take (cellOff off sp) ++ vs ++ c.list.drop (cellOff off sp + vs.length) ∧ ∀ v ∈ vs, v.oneCell' = true := by
  cases c with
  | vals l =>
    simp only [writeC] at h
    obtain ⟨h1, h⟩ := cond_ne h
    obtain ⟨q, hq, h⟩ := opt_ne h
    simp at h
    subst h
    obtain ⟨a1, a2⟩ := putAt_eq _ _ _ _ hq
    exact ⟨.inl ⟨rfl, rfl⟩, a2, a1, one_all h1⟩
  | ints k ws =>
    simp only [writeC] at h
    split at h
    · rename_i k' n
      obtain ⟨hk, h⟩ := cond_ne h
      obtain ⟨hp, h⟩ := br_ne h
      simp at h
      subst h
      have hk' : k' = k := by simpa using hk
      subst hk'
      refine ⟨.inl ⟨rfl, rfl⟩, by simp [Cells.list]; omega, ?_, by simp [Value.oneCell']⟩
      simp only [Cells.list, List.length_singleton]
      apply List.ext_getElem?
      intro j
      simp only [List.getElem?_append, List.length_append, List.length_take, List.length_map, List.getElem?_take, List.getElem?_map, List.getElem?_set, List.getElem?_drop, List.length_singleton, show min (cellOff off sp) ws.length = cellOff off sp by omega]
      by_cases j1 : j < cellOff off sp
      · simp [j1, show j < cellOff off sp + 1 by omega, show cellOff off sp ≠ j by omega]
      · by_cases j2 : j = cellOff off sp
        · subst j2; simp [hp]
        · simp [show ¬ j < cellOff off sp + 1 by omega, show cellOff off sp ≠ j by omega, show cellOff off sp + 1 + (j - (cellOff off sp + 1)) = j by omega]
    · obtain ⟨r, hr, h⟩ := opt_ne h
      obtain ⟨hp, h⟩ := br_ne h
      simp at h
      subst h
      have := toInts_ok hr
      subst this
      exact ⟨.inl ⟨rfl, rfl⟩, by simpa [Cells.list] using hp, by simp [Cells.list, List.map_take, List.map_drop], one_ints⟩
  | recs fs rs =>
    simp only [writeC] at h
    cases sp with
    | none => simp at h
    | some s =>
      simp only at h
      obtain ⟨hw, h⟩ := cond_ne h
      obtain ⟨hp, h⟩ := br_ne h
      obtain ⟨q, hq, h⟩ := opt_ne h
      simp at h
      subst h
      have hw0 : wOf s = fs.length ∧ 0 < vs.length := by simpa [Nat.blt_eq] using hw
      have hw' := hw0.1
      obtain ⟨q1, q2, q3, q4⟩ := putR_ok (expandR_length _ _ _) hq
      have hex : encR fs 0 (expandR fs.length 0 (rs.getD off [])) = encR fs 0 (rs.getD off []) := by
        apply List.ext_getElem?
        intro j
        rw [encR_get, encR_get]
        cases hj : fs[j]? with
        | none => rfl
        | some f =>
          have : j < fs.length := (List.getElem?_eq_some_iff.1 hj).1
          simp only [Option.map_some, Nat.zero_add, expandR_get, this, if_true]
      rw [hex] at q3
      have hle : cOf s + vs.length ≤ fs.length := by
        have := hw0.2
        omega
      have hlen : (encR fs 0 (rs.getD off [])).length = fs.length := encR_length _ _ _
      have hsplit : (rs.flatMap (encR fs 0)) = (rs.flatMap (encR fs 0)).take (off * fs.length) ++ encR fs 0 (rs.getD off []) ++ (rs.flatMap (encR fs 0)).drop (off * fs.length + fs.length) := by
        have := flat_set (fs := fs) (q := rs.getD off []) hp
        rw [show rs.set off (rs.getD off []) = rs by simp [List.getD_eq_getElem?_getD, hp]] at this
        exact this
      have h1 : (off + 1) * fs.length ≤ rs.length * fs.length := Nat.mul_le_mul_right _ hp
      rw [Nat.add_mul, Nat.one_mul] at h1
      refine ⟨.inl ⟨rfl, rfl⟩, by simp only [Cells.list, cellOff, hw', flat_length]; omega, ?_, q4⟩
      simp only [Cells.list, cellOff, hw']
      rw [flat_set hp, q3]
      generalize hA : (rs.flatMap (encR fs 0)).take (off * fs.length) = A at hsplit ⊢
      generalize hB : (rs.flatMap (encR fs 0)).drop (off * fs.length + fs.length) = B at hsplit ⊢
      generalize encR fs 0 (rs.getD off []) = R at *
      have hAl : A.length = off * fs.length := by rw [← hA, List.length_take, flat_length]; omega
      rw [hsplit]
      rw [List.append_assoc A R B, ← hAl, List.take_length_add_append, Nat.add_assoc, List.drop_length_add_append]
      rw [List.take_append_of_le_length (by omega), List.drop_append_of_le_length (by omega)]
      simp [List.append_assoc]
  | map es => simp [writeC] at h
  | part l m =>
    simp only [writeC] at h
    obtain ⟨h1, h⟩ := cond_ne h
    obtain ⟨q, hq, h⟩ := opt_ne h
    simp at h
    subst h
    obtain ⟨a1, a2⟩ := putAt_eq _ _ _ _ hq
    exact ⟨.inr ⟨l, m, rfl, rfl⟩, a2, a1, one_all h1⟩
theorem cutC_ok {c d : Cells} {off m size : Nat} {sp : Option Nat} (h : (cutC c off sp m size).get = some d) : isMap c = false ∧ isMap d = false ∧ cellOff off sp + m * size ≤ c.list.length ∧ d.list = (c.list.drop (cellOff off sp)).take (m * size) := by
  cases c with
  | vals l =>
    simp only [cutC] at h
    obtain ⟨r, hr, h⟩ := opt_ne h
    simp at h
    subst h
    obtain ⟨h1, h2⟩ := takeAt_eq _ _ _ _ hr
    exact ⟨rfl, rfl, h2, h1⟩
  | ints k ws =>
    simp only [cutC] at h
    obtain ⟨hp, h⟩ := br_ne h
    simp at h
    subst h
    exact ⟨rfl, rfl, by simpa [Cells.list] using hp, by simp [Cells.list, List.map_take, List.map_drop]⟩
  | recs fs rs =>
    simp only [cutC] at h
    cases sp with
    | none => simp at h
    | some s =>
      simp only at h
      obtain ⟨hw, h⟩ := cond_ne h
      obtain ⟨hp, h⟩ := br_ne h
      simp at h
      subst h
      simp only [Bool.and_eq_true, beq_iff_eq] at hw
      obtain ⟨⟨hw1, hw2⟩, hw3⟩ := hw
      have h1 : (off + m) * fs.length ≤ rs.length * fs.length := Nat.mul_le_mul_right _ hp
      rw [Nat.add_mul] at h1
      refine ⟨rfl, rfl, by simp only [Cells.list, cellOff, hw1, hw2, hw3, flat_length]; omega, ?_⟩
      simp only [Cells.list, cellOff, hw1, hw2, hw3, Nat.add_zero, flat_drop, flat_take]
  | map es => simp [cutC] at h
  | part l m => simp [cutC] at h
theorem layInts_ok {k : IntKind} {ws r : List Int} {o : Nat} {y : Cells} (h : (layInts k ws o r).get = some y) : isMap y = false ∧ o + (r.map (Value.int k)).length ≤ (ws.map (Value.int k)).length ∧ y.list = (ws.map (Value.int k)).take o ++ r.map (Value.int k) ++ (ws.map (Value.int k)).drop (o + (r.map (Value.int k)).length) := by
  unfold layInts at h
  obtain ⟨hp, h⟩ := br_ne h
  simp at h
  subst h
  exact ⟨rfl, by simpa using hp, by simp [Cells.list, List.map_take, List.map_drop]⟩
theorem layRecs_ok {fs : List Fmt} {rs r : List (List Int)} {o : Nat} {y : Cells} (h : (layRecs fs rs o r).get = some y) : isMap y = false ∧ o * fs.length + (r.flatMap (encR fs 0)).length ≤ (rs.flatMap (encR fs 0)).length ∧
    y.list = (rs.flatMap (encR fs 0)).take (o * fs.length) ++ r.flatMap (encR fs 0) ++ (rs.flatMap (encR fs 0)).drop (o * fs.length + (r.flatMap (encR fs 0)).length) := by
  unfold layRecs at h
  obtain ⟨hp, h⟩ := br_ne h
  simp at h
  subst h
  have h1 : (o + r.length) * fs.length ≤ rs.length * fs.length := Nat.mul_le_mul_right _ hp
  rw [Nat.add_mul] at h1
  refine ⟨rfl, by rw [flat_length, flat_length]; omega, ?_⟩
  simp only [Cells.list, List.flatMap_append]
  rw [flat_length r, ← Nat.add_mul, flat_take, flat_drop, List.append_assoc]
theorem layC_ok {c d y : Cells} {off : Nat} {sp : Option Nat} (h : (layC c off sp d).get = some y) : isMap c = false ∧ isMap y = false ∧ cellOff off sp + d.list.length ≤ c.list.length ∧ y.list = c.list.take (cellOff off sp) ++ d.list ++ c.list.drop (cellOff off sp + d.list.length) ∧ ∀ v ∈ d.list, v.oneCell' = true := by
  cases c with
  | vals l =>
    cases d <;> simp [layC] at h
    rename_i r
    have h' : (cond (oneCells r) (ofOpt (putAt l (cellOff off sp) r) fun q => Tree.leaf (Cells.vals q)) .bad).get = some y := by simpa using h
    obtain ⟨h1, h⟩ := cond_ne h'
    obtain ⟨q, hq, h⟩ := opt_ne h
    simp at h
    subst h
    obtain ⟨a1, a2⟩ := putAt_eq _ _ _ _ hq
    exact ⟨rfl, rfl, a2, a1, one_all h1⟩
  | ints k ws =>
    cases d with
    | ints k' r =>
      simp only [layC] at h
      obtain ⟨h1, h⟩ := cond_ne h
      simp at h1
      subst h1
      obtain ⟨a0, a1, a2⟩ := layInts_ok h
      exact ⟨rfl, a0, a1, a2, one_ints⟩
    | vals r =>
      simp only [layC] at h
      obtain ⟨q, hq, h2⟩ := opt_ne h
      have := toInts_ok hq
      subst this
      obtain ⟨a0, a1, a2⟩ := layInts_ok h2
      exact ⟨rfl, a0, a1, a2, one_ints⟩
    | recs _ _ => simp [layC] at h
    | map _ => simp [layC] at h
    | part _ _ => simp [layC] at h
  | recs fs rs =>
    cases d with
    | ints k' r => simp [layC] at h
    | map _ => simp [layC] at h
    | part _ _ => simp [layC] at h
    | vals r =>
      simp only [layC] at h
      cases sp with
      | none => simp at h
      | some s =>
        simp only at h
        obtain ⟨hw, h⟩ := cond_ne h
        simp only [Bool.and_eq_true, beq_iff_eq] at hw
        obtain ⟨hw1, hw2⟩ := hw
        obtain ⟨q, hq, h2⟩ := opt_ne h
        have := toRecs_ok hq
        subst this
        obtain ⟨a0, a1, a2⟩ := layRecs_ok h2
        simp only [cellOff, hw1, hw2, Nat.add_zero]
        exact ⟨rfl, a0, a1, a2, one_flat⟩
    | recs fs' r =>
      simp only [layC] at h
      cases sp with
      | none => simp at h
      | some s =>
        simp only at h
        obtain ⟨hw, h⟩ := cond_ne h
        simp only [Bool.and_eq_true, beq_iff_eq, decide_eq_true_eq] at hw
        obtain ⟨⟨hw1, hw2⟩, rfl⟩ := hw
        obtain ⟨a0, a1, a2⟩ := layRecs_ok h
        simp only [cellOff, hw1, hw2, Nat.add_zero]
        exact ⟨rfl, a0, a1, a2, one_flat⟩
  | map es => cases d <;> simp [layC] at h
  | part l m => cases d <;> simp [layC] at h
theorem addC_ok {c d y : Cells} (h : (addC c d).get = some y) : isMap c = false ∧ isMap y = false ∧ y.list = c.list ++ d.list ∧ ∀ v ∈ d.list, v.oneCell' = true := by
  have nil : ∀ {l : List Value}, noneIn l = true → l = [] := by
    intro l h
    cases l with
    | nil => rfl
    | cons _ _ => simp [noneIn] at h
  cases c with
  | vals l =>
    cases d with
    | ints k r =>
      simp only [addC] at h
      obtain ⟨h1, h⟩ := cond_ne h
      simp at h
      subst h
      rw [nil h1]
      exact ⟨rfl, rfl, rfl, one_ints⟩
    | vals r =>
      simp only [addC] at h
      obtain ⟨h1, h⟩ := cond_ne h
      simp at h
      subst h
      exact ⟨rfl, rfl, rfl, one_all h1⟩
    | recs fs r =>
      simp only [addC] at h
      obtain ⟨h1, h⟩ := cond_ne h
      simp at h
      subst h
      rw [nil h1]
      exact ⟨rfl, rfl, rfl, one_flat⟩
    | map _ => simp [addC] at h
    | part _ _ => simp [addC] at h
  | ints k ws =>
    cases d with
    | ints k' r =>
      simp only [addC] at h
      obtain ⟨h1, h⟩ := cond_ne h
      simp at h1
      subst h1
      simp at h
      subst h
      exact ⟨rfl, rfl, by simp [Cells.list], one_ints⟩
    | vals r =>
      simp only [addC] at h
      obtain ⟨q, hq, h⟩ := opt_ne h
      simp at h
      subst h
      have := toInts_ok hq
      subst this
      exact ⟨rfl, rfl, by simp [Cells.list], one_ints⟩
    | recs _ _ => simp [addC] at h
    | map _ => simp [addC] at h
    | part _ _ => simp [addC] at h
  | recs fs rs =>
    cases d with
    | ints k' r => simp [addC] at h
    | map _ => simp [addC] at h
    | part _ _ => simp [addC] at h
    | vals r =>
      simp only [addC] at h
      obtain ⟨q, hq, h⟩ := opt_ne h
      simp at h
      subst h
      have := toRecs_ok hq
      subst this
      exact ⟨rfl, rfl, by simp [Cells.list], one_flat⟩
    | recs fs' r =>
      simp only [addC] at h
      obtain ⟨h1, h⟩ := cond_ne h
      simp at h1
      subst h1
      simp at h
      subst h
      exact ⟨rfl, rfl, by simp [Cells.list], one_flat⟩
  | map es => cases d <;> simp [addC] at h
  | part l m => cases d <;> simp [addC] at h
theorem lenC_list {c : Cells} (h : isMap c = false) : lenC c = c.list.length := by
  cases c with
  | recs fs rs => simp only [lenC, Cells.list, flat_length]
  | map es => simp [isMap] at h
  | part l m => simp [isMap] at h
  | _ => simp [lenC, Cells.list]
theorem one_conc' (v : Value) : (conc ρ v).oneCell' = v.oneCell' := by
  cases v with
  | pointer a => cases a <;> simp [conc, Value.oneCell']
  | slice a l c => cases a <;> simp [conc, Value.oneCell']
  | map a => cases a <;> simp [conc, Value.oneCell']
  | _ => simp [conc, Value.oneCell']

/-- The cells of a slice, where they lie in a world. -/
theorem src_cells {j off m size : Nat} {sp : Option Nat} {b : Blk} {d : Cells} (hr : Reps P K ρ H w) (hb : H.get j = some b) (h : (cutC b.c off sp m size).get = some d) (i : Nat) (v : Value) (hv : (concL ρ d.list)[i]? = some v) :
    w.cell? ((caddr ρ ⟨j, off, sp⟩ : Addr).add i) = some v := by
  obtain ⟨hm, _, h1, h2⟩ := cutC_ok h
  rw [caddr_eq, add_at]
  rw [h2] at hv
  exact hr.piece hb (fun _ _ _ => .inl hm) hv
theorem setRow_eq {b : Nat} {cs : Array Value} {t : TypeId} {new : Array Value} (hb : w.heap[b]? = some (.cells cs t (0, 0))) : w.setRow b new = { w with heap := w.heap.setIfInBounds b (.cells new t (0, 0)) } := by
  unfold World.setRow
  congr 1
  apply Array.ext_getElem?
  intro k
  have hlt : b < w.heap.size := (Array.getElem?_eq_some_iff.1 hb).1
  have hv : w.heap[b] = .cells cs t (0, 0) := (Array.getElem?_eq_some_iff.1 hb).2
  simp only [Array.getElem?_modify, Array.getElem?_setIfInBounds]
  by_cases hk : b = k
  · subst hk
    simp [hlt, hv]
  · simp [hk]

theorem ok_copy {args : Array Operand} {ts : Array TypeId} {d s : Value} {t : TypeId} {tl : List TypeId} (ho : o.op = .call { callee := .builtin .copy, args, argTypes := ts }) (hargs : args.map act = #[conc ρ d, conc ρ s]) (hts : ts.toList = t :: tl) (hr : Reps P K ρ H w)
    (hd : sc K d) (hs : sc K s) (hwn : effWin eff = false) (h : (doCopy P H.get t d s).get = some eff) : DoOk P K ρ H w id eff ((execOp act o).run P w) := by
  obtain ⟨lt⟩ := ts
  simp at hts
  subst hts
  unfold doCopy at h
  split at h
  · rename_i el i off sp dl cd j off2 sp2 sl cs hu
    cases hi : P.info? el with
    | none => simp [hi] at h
    | some ti =>
      simp only [hi] at h
      obtain ⟨b, hb, h⟩ := opt_ne h
      obtain ⟨c, hc, h⟩ := opt_ne h
      obtain ⟨x, hx, h⟩ := leaf_ne h
      obtain ⟨y, hy, h⟩ := leaf_ne h
      simp at h
      subst h
      have hw : isWin b = false := hwn
      obtain ⟨ex, b1, b2, b0⟩ := hr.row i b hb hw
      obtain ⟨_, _, x1, x2⟩ := cutC_ok hx
      obtain ⟨ym, ym2, y1, y2, y3⟩ := layC_ok hy
      have hxl : x.list.length = Nat.min sl dl * ti.size := by rw [x2]; simp; omega
      have load : (Builtin.firstCells ti.size (Nat.min sl dl) (.slice (some (caddr ρ ⟨j, off2, sp2⟩)) sl (ccap ρ ⟨j, off2, sp2⟩ cs))).run P w = .ok (concL ρ x.list).toArray w :=
        run_firstCells_some w ti.size (Nat.min sl dl) (caddr ρ ⟨j, off2, sp2⟩) sl (ccap ρ ⟨j, off2, sp2⟩ cs) (concL ρ x.list) (by simp [hxl]) (fun q v hv => src_cells hr hc hx q v hv)
      have store : (storeCells (caddr ρ ⟨i, off, sp⟩) (concL ρ x.list)).run P w = .ok () { w with heap := w.heap.setIfInBounds (ρ.blk i) (obj ρ ⟨b.t, y⟩ ex) } := by
        rw [obj_cells ym] at b1
        rw [caddr_eq, b0, Nat.zero_add]
        have := run_storeCells_at P (ρ.blk i) (cellOff off sp) b.t (concL ρ x.list) 0 ⟨concL ρ b.c.list ++ ex⟩ w b1 (by simp; omega) (fun v hv => by
          simp only [concL_eq, List.mem_map] at hv
          obtain ⟨v', hv', rfl⟩ := hv
          rw [one_conc']
          exact y3 v' hv')
        rw [this, setRow_eq b1]
        rw [obj_cells (b := ⟨b.t, y⟩) ym2]
        simp only [y2]
        congr 4
        simp only [concL_eq, List.map_append, List.map_take, List.map_drop, List.length_map, Nat.add_zero]
        rw [List.take_append_of_le_length (by simp; omega), List.drop_append_of_le_length (by simp; omega)]
        simp
      refine ⟨ρ, _, _, ?_, .inl rfl, by simp [Eff.v, sc], b, ex, hb, hw, by rw [fits_cells ym2]; rw [fits_cells ym] at b2; exact b2, ?_, rfl, rfl⟩
      · simp only [execOp, ho, resolve, Sem.run_bind, Sem.run_pure, Result.andThen_ok, invoke, Go.builtin, hargs, conc]
        simp only [Builtin.copy_, List.getElem?_toArray, List.getElem?_cons_zero, List.getElem?_cons_succ, Sem.run_bind, run_underlying hu, Result.andThen_ok, Builtin.lenOf, Sem.run_pure, sizeOf, typeInfo, run_program, hi, load, store]
        simp [Eff.v, conc, goInt]
      · have hk1 := scL_iff.1 (hr.known i b hb).2
        have hk2 := scL_iff.1 (hr.known j c hc).2
        rw [scL_iff]
        intro z hz
        simp only [y2, List.mem_append] at hz
        rcases hz with (hz | hz) | hz
        · exact hk1 z (List.mem_of_mem_take hz)
        · rw [x2] at hz
          exact hk2 z (List.mem_of_mem_drop (List.mem_of_mem_take hz))
        · exact hk1 z (List.mem_of_mem_drop hz)
  · rename_i el p dl dc q sl cs _ hu
    cases hi : P.info? el with
    | none => simp [hi] at h
    | some ti =>
      simp only [hi] at h
      obtain ⟨hz, h⟩ := cond_ne h
      simp at h
      subst h
      have hz' : Nat.min sl dl = 0 := by
        simp only [Bool.or_eq_true] at hz
        rcases hz with hz | hz
        · rw [Nat.eq_of_beq_eq_true hz]; exact Nat.min_zero _
        · rw [Nat.eq_of_beq_eq_true hz]; exact Nat.zero_min _
      refine DoOk.ofVal (by simp [sc]) ?_
      have f1 : ∀ c, (Builtin.firstCells ti.size 0 (.slice none sl c)).run P w = .ok #[] w := fun c => run_firstCells_none w ti.size 0 sl c
      have f2 : ∀ a c, (Builtin.firstCells ti.size 0 (.slice (some a) sl c)).run P w = .ok #[] w := fun a c => run_firstCells_some w ti.size 0 a sl c [] (by simp) (by simp)
      cases p <;> cases q <;>
        simp [execOp, ho, resolve, invoke, Go.builtin, hargs, conc, Builtin.copy_, run_underlying hu, Builtin.lenOf, goInt, sizeOf, typeInfo, hi, hz', f1, f2, storeCells]
  · simp at h

theorem noCells_nil (el : TypeId) : (noCells P el).list = [] ∧ isMap (noCells P el) = false := by
  unfold noCells
  split
  · exact ⟨rfl, rfl⟩
  · split
    · rw [Bool.cond_eq_ite]; split <;> exact ⟨rfl, rfl⟩
    · exact ⟨rfl, rfl⟩
theorem zero_cells {z : Array Value} {n : Nat} : (Builtin.zeroCells z n).size = n * z.size := by simp [Builtin.zeroCells]
theorem grown_le {w : World} {need old : Nat} {e : TypeId} : need ≤ grownCap w need old e := by
  simp only [grownCap, Question.cut]
  omega

theorem ccap_le (a : Addr) (c : Nat) : c ≤ ccap ρ a c := by
  unfold ccap
  cases exact_ a <;> simp
theorem stay_ok {t el : TypeId} {ti : TypeInfo} {s x : Value} {ty : TypeId} (hu : P.underlying t = some (.slice el)) (hi : P.info? el = some ti) (h : (stayC s).get = some eff) (hs : sc K s) {ax : Option Addr} {cx : Nat} (hx : x = .slice ax 0 cx) :
    ∃ v, eff = .val v ∧ sc K v ∧ (Builtin.append_ #[t, t] ty #[conc ρ s, conc ρ x]).run P w = .ok (conc ρ v) w := by
  subst hx
  have hx0 : ∃ p c', conc ρ (.slice ax 0 cx) = .slice p 0 c' ∧ (∀ size, (Builtin.firstCells size 0 (.slice p 0 c')).run P w = .ok #[] w) := by
    cases ax with
    | none => exact ⟨none, cx, by simp [conc], fun size => run_firstCells_none w size 0 0 cx⟩
    | some a => exact ⟨some (caddr ρ a), ccap ρ a cx, by simp [conc], fun size => run_firstCells_some w size 0 _ 0 _ [] (by simp) (by simp)⟩
  obtain ⟨p, c', hp, hfc⟩ := hx0
  rw [hp]
  unfold stayC at h
  split at h
  · rename_i n c
    obtain ⟨hle, hh⟩ := br_ne h
    simp at hh
    refine ⟨_, hh.symm, hs, ?_⟩
    simp [conc, Builtin.append_, run_underlying hu, sizeOf, typeInfo, hi, Builtin.lenOf, hle, hfc]
  · rename_i a n c
    obtain ⟨hle, hh⟩ := br_ne h
    simp at hh
    refine ⟨_, hh.symm, hs, ?_⟩
    have hle' : n ≤ ccap ρ a c := Nat.le_trans hle (ccap_le a c)
    simp [conc, Builtin.append_, run_underlying hu, sizeOf, typeInfo, hi, Builtin.lenOf, hle', hfc, storeCells]
  · simp at h

theorem exact_empty {id : Nat} {sp : Option Nat} (h : (!emptyAt sp) = true) : exact_ ⟨id, 0, sp⟩ = false := by
  cases sp with
  | none => rfl
  | some s => simpa [emptyAt, exact_] using h
theorem cutAddr_eq {a b : Addr} {size l : Nat} (h : cutAddr a size l = some b) : caddr ρ b = (caddr ρ a).add (l * size) ∧ (exact_ b = exact_ a) ∧ b.block = a.block := by
  obtain ⟨i, off, sp⟩ := a
  cases sp with
  | none => simp [cutAddr] at h; subst h; exact ⟨by simp [add_at, Nat.add_assoc], rfl, rfl⟩
  | some s =>
    simp only [cutAddr] at h
    cases hs : (s % 4096 == 0) with
    | false => simp [hs] at h
    | true =>
      simp only [hs, cond_true] at h
      have hs' : s % 4096 = 0 := by simpa using hs
      cases hw : (wOf s == size) with
      | true =>
        simp [hw] at h
        subst h
        have hw' : s % 1048576 / 4096 = size := by simpa [wOf] using hw
        exact ⟨by simp [caddr, add_at, hs', hw', Nat.add_mul, Nat.add_assoc], rfl, rfl⟩
      | false =>
        simp only [hw, cond_false] at h
        cases hw1 : (wOf s == 1) with
        | false => simp [hw1] at h
        | true =>
          simp [hw1] at h
          subst h
          have hw' : s % 1048576 / 4096 = 1 := by simpa [wOf] using hw1
          exact ⟨by simp [caddr, add_at, hs', hw', Nat.add_assoc], rfl, rfl⟩
/-- A new block's place at its start. -/
theorem conc_start {ρ' : Val} {id l n : Nat} {y : Cells} (h0 : ρ'.start id = 0) (h : exact_ ⟨id, 0, spotOf y⟩ = false) : conc ρ' (.slice (some ⟨id, 0, spotOf y⟩) l n) = .slice (some ⟨ρ'.blk id, 0, none⟩) l (n + ρ'.room id) := by
  simp only [conc, ccap, h, cond_false]
  congr 2
  cases y <;> simp [spotOf, caddr, h0]

theorem place_ok {t el ty : TypeId} {ti : TypeInfo} {m i off0 n c : Nat} {sp : Option Nat} {b : Blk} {d : Cells} {acx : Addr} {ccx : Nat} (hr : Reps P K ρ H w) (hid : ¬ K id) (hu : P.underlying t = some (.slice el)) (hi : P.info? el = some ti)
    (hdl : (concL ρ d.list).length = m * ti.size) (news : ∀ (q : Nat) (v : Value), (concL ρ d.list)[q]? = some v → w.cell? (acx.add q) = some v) (scd : scL K d.list) (hb : H.get i = some b) (hwn : effWin eff = false) (h : (inPlace i b off0 sp n c d m ti.size).get = some eff) :
    ∃ ρ' w', (Builtin.append_ #[t, t] ty #[conc ρ (.slice (some ⟨i, off0, sp⟩) n c), .slice (some acx) m ccx]).run P w = .ok (conc ρ' eff.v) w' ∧ sc (also K id) eff.v ∧ Does P K ρ H w id ρ' w' eff := by
  unfold inPlace at h
  obtain ⟨hle, h1⟩ := br_ne h
  obtain ⟨a, ha, h2⟩ := opt_ne h1
  obtain ⟨y, hy, h3⟩ := leaf_ne h2
  clear h h1 h2
  simp at h3
  subst h3
  obtain ⟨q1, q2, q3⟩ := cutAddr_eq (ρ := ρ) ha
  have hw : isWin b = false := hwn
  obtain ⟨ex, b1, b2, b0⟩ := hr.row i b hb hw
  obtain ⟨ym, ym2, y1, y2, y3⟩ := layC_ok hy
  have hk1 := scL_iff.1 (hr.known i b hb).2
  have hfc : (Builtin.firstCells ti.size m (.slice (some acx) m ccx)).run P w = .ok (concL ρ d.list).toArray w := run_firstCells_some w ti.size m acx m ccx (concL ρ d.list) hdl news
  have hst : (storeCells ((caddr ρ ⟨i, off0, sp⟩).add (n * ti.size)) (concL ρ d.list)).run P w = .ok () { w with heap := w.heap.setIfInBounds (ρ.blk i) (obj ρ ⟨b.t, y⟩ ex) } := by
    rw [← q1]
    obtain ⟨ab, ao, asp⟩ := a
    simp only at q3
    subst q3
    rw [obj_cells ym] at b1
    rw [caddr_eq, b0, Nat.zero_add]
    have := run_storeCells_at P (ρ.blk ab) (cellOff ao asp) b.t (concL ρ d.list) 0 ⟨concL ρ b.c.list ++ ex⟩ w b1 (by simp only at y1; simp; omega) (fun v hv => by
      simp only [concL_eq, List.mem_map] at hv
      obtain ⟨v', hv', rfl⟩ := hv
      rw [one_conc']
      exact y3 v' hv')
    rw [this, setRow_eq b1]
    rw [obj_cells (b := ⟨b.t, y⟩) ym2]
    simp only at y1 y2
    simp only [y2]
    congr 4
    simp only [concL_eq, List.map_append, List.map_take, List.map_drop, List.length_map, Nat.add_zero]
    rw [List.take_append_of_le_length (by simp; omega), List.drop_append_of_le_length (by simp; omega)]
    simp
  have hcap : n + m ≤ ccap ρ ⟨i, off0, sp⟩ c := Nat.le_trans hle (ccap_le _ c)
  refine ⟨ρ, _, ?_, by simpa [Eff.v, sc, also] using (Or.inl (hr.known i b hb).1), b, ex, hb, hw, by rw [fits_cells ym2]; rw [fits_cells ym] at b2; exact b2, ?_, rfl, rfl⟩
  · have hc : conc ρ (.slice (some ⟨i, off0, sp⟩) n c) = .slice (some (caddr ρ ⟨i, off0, sp⟩)) n (ccap ρ ⟨i, off0, sp⟩ c) := by simp [conc]
    have hv : conc ρ (.slice (some ⟨i, off0, sp⟩) (n + m) c) = .slice (some (caddr ρ ⟨i, off0, sp⟩)) (n + m) (ccap ρ ⟨i, off0, sp⟩ c) := by simp [conc]
    rw [hc]
    simp only [Builtin.append_, List.getElem?_toArray, List.getElem?_cons_zero, List.getElem?_cons_succ, Sem.run_bind, run_underlying hu, Result.andThen_ok, sizeOf, typeInfo, run_program, hi, Sem.run_pure, Bool.false_eq_true, if_false, Builtin.lenOf, Sem.run_ite, hcap, if_true, Bool.not_false, hfc, hst, Eff.v, hv]
  · rw [scL_iff]
    intro z hz
    simp only [y2, List.mem_append] at hz
    rcases hz with (hz | hz) | hz
    · exact hk1 z (List.mem_of_mem_take hz)
    · exact scL_iff.1 scd z hz
    · exact hk1 z (List.mem_of_mem_drop hz)
theorem grow_ok {t el ty : TypeId} {ti : TypeInfo} {z s : Value} {m j off cx : Nat} {spj : Option Nat} {bj : Blk} {d : Cells} (hr : Reps P K ρ H w) (hid : ¬ K id) (hu : P.underlying t = some (.slice el)) (hi : P.info? el = some ti) (hz : ti.zero = some z) (hzs : z.cells.size = ti.size)
    (hm : m ≠ 0) (hbj : H.get j = some bj) (hwn : effWin eff = false) (hd : (cutC bj.c off spj m ti.size).get = some d) (h : (growC P H.get id el ti s d m).get = some eff) :
    ∃ ρ' w', (Builtin.append_ #[t, t] ty #[conc ρ s, .slice (some (caddr ρ ⟨j, off, spj⟩)) m (ccap ρ ⟨j, off, spj⟩ cx)]).run P w = .ok (conc ρ' eff.v) w' ∧ sc (also K id) eff.v ∧ Does P K ρ H w id ρ' w' eff := by
  have hcell : cellsOf P el = ti.size := by simp [cellsOf, hi]
  obtain ⟨_, _, d1, d2⟩ := cutC_ok hd
  have hdl : (concL ρ d.list).length = m * ti.size := by rw [d2]; simp; omega
  have news := fun q v hv => src_cells hr hbj hd q v hv
  have scd : scL K d.list := by
    have := scL_iff.1 (hr.known j bj hbj).2
    rw [scL_iff, d2]
    exact fun v hv => this v (List.mem_of_mem_drop (List.mem_of_mem_take hv))
  generalize hcc : ccap ρ ⟨j, off, spj⟩ cx = ccx
  generalize hca : caddr ρ ⟨j, off, spj⟩ = acx at news ⊢
  unfold growC at h
  split at h
  · obtain ⟨⟨c1, c2⟩, h1⟩ := br_ne h
    obtain ⟨y, hy, h2⟩ := leaf_ne h1
    obtain ⟨hex, h2⟩ := cond_ne h2
    simp at h2
    subst h2
    obtain ⟨_, ym, y1, y2⟩ := addC_ok hy
    rw [(noCells_nil el).1, List.nil_append] at y1
    have run := run_append_nil w t ty el ti z hu hi hz acx m ccx (concL ρ d.list) hdl news (by omega) (by omega) (by omega)
    have hle := grown_le (w := w) (need := m) (old := 0) (e := el)
    refine ⟨ρ.put id w.heap.size (grownCap w m 0 el - m), _, ?_, by simp [Eff.v, sc, also], .inl ⟨grownCap w m 0 el - m, w.drawn + 1, (Builtin.zeroCells z.cells (grownCap w m 0 el - m)).toList, ?_, by rw [y1]; exact scd, rfl, rfl⟩⟩
    · have hc : conc ρ (.slice none 0 0) = .slice none 0 0 := by simp [conc]
      rw [hc, run]
      have hv : conc (ρ.put id w.heap.size (grownCap w m 0 el - m)) (.slice (some ⟨id, 0, spotOf y⟩) m m) = .slice (some ⟨w.heap.size, 0, none⟩) m (grownCap w m 0 el) := by
        rw [conc_start (by simp [Val.put]) (exact_empty hex)]
        simp [Val.put]
        omega
      have hl : ((concL ρ d.list).toArray ++ Builtin.zeroCells z.cells (grownCap w m 0 el - m)) = ⟨concL ρ d.list ++ (Builtin.zeroCells z.cells (grownCap w m 0 el - m)).toList⟩ := by
        apply Array.ext'
        simp
      rw [obj_cells ym]
      simp only [Eff.v, hv, World.alloc, World.drew, y1, hl]
    · rw [fits_cells ym]
      simp only [Array.length_toList, zero_cells, hzs, hcell]
  · rename_i i off0 sp n c
    rw [Bool.cond_eq_ite] at h
    split at h
    · rename_i hemp
      obtain ⟨⟨c0, c00, c1, c2⟩, h1⟩ := br_ne h
      obtain ⟨y, hy, h2⟩ := leaf_ne h1
      obtain ⟨hex, h2⟩ := cond_ne h2
      simp at h2
      subst h2
      subst c0
      subst c00
      obtain ⟨_, ym, y1, y2⟩ := addC_ok hy
      rw [(noCells_nil el).1, List.nil_append] at y1
      have hce : conc ρ (.slice (some ⟨i, off0, sp⟩) 0 0) = .slice (some (caddr ρ ⟨i, off0, sp⟩)) 0 0 := by
        simp only [conc, ccap]
        have : exact_ ⟨i, off0, sp⟩ = true := by
          cases sp with
          | none => simp [emptyAt] at hemp
          | some s => simpa [emptyAt, exact_] using hemp
        simp [this]
      have hg : 0 < 0 + m := by omega
      have run := run_append_grow w t ty el ti z hu hi hz (caddr ρ ⟨i, off0, sp⟩) 0 0 [] (by simp) (by simp) acx m ccx (concL ρ d.list) hdl news hg (by omega) (growslice_fits hg (by rw [Nat.zero_add]; exact c1))
      simp only [Nat.zero_add] at run
      have hle := grown_le (w := w) (need := m) (old := 0) (e := el)
      refine ⟨ρ.put id w.heap.size (grownCap w m 0 el - m), _, ?_, by simp [Eff.v, sc, also], .inl ⟨grownCap w m 0 el - m, w.drawn + 1, (Builtin.zeroCells z.cells (grownCap w m 0 el - m)).toList, ?_, by rw [y1]; exact scd, rfl, rfl⟩⟩
      · rw [hce, run]
        have hv : conc (ρ.put id w.heap.size (grownCap w m 0 el - m)) (.slice (some ⟨id, 0, spotOf y⟩) m m) = .slice (some ⟨w.heap.size, 0, none⟩) m (grownCap w m 0 el) := by
          rw [conc_start (by simp [Val.put]) (exact_empty hex)]
          simp [Val.put]
          omega
        have hl : (([] : List Value).toArray ++ (concL ρ d.list).toArray ++ Builtin.zeroCells z.cells (grownCap w m 0 el - m)) = ⟨concL ρ d.list ++ (Builtin.zeroCells z.cells (grownCap w m 0 el - m)).toList⟩ := by
          apply Array.ext'
          simp
        rw [obj_cells ym]
        simp only [Eff.v, hv, World.alloc, World.drew, y1, hl]
      · rw [fits_cells ym]
        simp only [Array.length_toList, zero_cells, hzs, hcell]
    · rename_i hemp
      obtain ⟨b, hb, h1⟩ := opt_ne h
      rw [Bool.cond_eq_ite] at h1
      split at h1
      case isFalse => exact place_ok (ccx := ccx) hr hid hu hi hdl news scd hb hwn h1
      case isTrue hbt0 =>
      have h2 := h1
      simp only [Bool.and_eq_true, beq_iff_eq, decide_eq_true_eq, Bool.not_eq_true'] at hbt0
      obtain ⟨⟨⟨hbt, hoff⟩, hsp⟩, hbm⟩ := hbt0
      obtain rfl := Nat.eq_of_beq_eq_true hoff
      rw [Tree.get_br] at h2
      split at h2
      case isFalse => exact place_ok (ccx := ccx) hr hid hu hi hdl news scd hb hwn h2
      case isTrue hcc0 =>
      have h3 := h2
      obtain ⟨c0, c1, c2, c3⟩ := of_decide_eq_true hcc0
      clear h h1 h2 hcc0
      subst c0
      obtain ⟨y, hy, h4⟩ := leaf_ne h3
      obtain ⟨hsy, h4⟩ := cond_ne h4
      have hsy : spotOf y = spotOf b.c := by simpa using hsy
      simp at h4
      subst h4
      obtain ⟨_, ym, y1, y2⟩ := addC_ok hy
      have hw : isWin b = false := by unfold isWin; rw [hbt]; exact hwn
      obtain ⟨ex, b1, b2, b0⟩ := hr.row i b hb hw
      have scb := (hr.known i b hb).2
      have scy : scL K y.list := by
        rw [y1, scL_iff]
        intro v hv
        simp only [List.mem_append] at hv
        rcases hv with hv | hv
        · exact (scL_iff.1 scb) v hv
        · exact (scL_iff.1 scd) v hv
      have hex : ∀ k, exact_ ⟨k, 0, spotOf y⟩ = false := by
        intro k
        rw [hsy, ← hsp]
        refine exact_empty ?_
        simpa using hemp
      rw [lenC_list hbm] at c1
      rw [fits_cells hbm, hbt, hcell] at b2
      have hc : conc ρ (.slice (some ⟨i, 0, sp⟩) c c) = .slice (some ⟨ρ.blk i, 0, none⟩) c (c + ρ.room i) := by
        rw [hsp, ← hsy]
        exact conc_start b0 (hex i)
      rw [hc]
      rw [obj_cells hbm] at b1
      have b1' : w.heap[ρ.blk i]? = some (.cells ⟨concL ρ b.c.list ++ ex⟩ el (0, 0)) := by rw [← hbt]; exact b1
      by_cases hroom : c + m ≤ c + ρ.room i
      · have hmr : m * ti.size ≤ ρ.room i * ti.size := Nat.mul_le_mul_right _ (by omega)
        have run := run_append_room w t ty el ti hu hi (ρ.blk i) c (c + ρ.room i) ⟨concL ρ b.c.list ++ ex⟩ (by rw [← hbt]; exact b1) acx m ccx (concL ρ d.list) hdl news
          (fun v hv => by
            simp only [concL_eq, List.mem_map] at hv
            obtain ⟨v', hv', rfl⟩ := hv
            rw [one_conc']
            exact y2 v' hv') hroom (by rw [hdl]; simp [c1, b2]; omega)
        refine ⟨ρ.put id (ρ.blk i) (ρ.room i - m), _, ?_, by simp [Eff.v, sc, also], .inr ⟨i, b, ρ.room i - m, ex.drop (m * ti.size), rfl, hb, hw, ?_, scy, rfl, rfl⟩⟩
        · rw [run, setRow_eq b1']
          have hv : conc (ρ.put id (ρ.blk i) (ρ.room i - m)) (.slice (some ⟨id, 0, spotOf y⟩) (c + m) (c + m)) = .slice (some ⟨ρ.blk i, 0, none⟩) (c + m) (c + ρ.room i) := by
            rw [conc_start (by simp [Val.put]) (hex id)]
            simp [Val.put]
            omega
          have hl : (List.take (c * ti.size) (⟨concL ρ b.c.list ++ ex⟩ : Array Value).toList ++ concL ρ d.list ++ List.drop (c * ti.size + (concL ρ d.list).length) (⟨concL ρ b.c.list ++ ex⟩ : Array Value).toList).toArray = ⟨concL ρ y.list ++ ex.drop (m * ti.size)⟩ := by
            rw [hdl, y1]
            congr 1
            simp only [concL_eq, List.map_append]
            rw [List.take_append_of_le_length (by simp [c1]), List.take_of_length_le (by simp [c1])]
            rw [List.drop_append, List.drop_eq_nil_of_le (by simp [c1]), List.nil_append]
            simp only [List.length_map, c1]
            rw [show c * ti.size + m * ti.size - c * ti.size = m * ti.size by omega]
          rw [obj_cells ym]
          simp only [Eff.v, hv, hl]
        · rw [fits_cells ym]
          simp only [List.length_drop, b2, hcell]
          rw [Nat.sub_mul]
      · have hg : c + ρ.room i < c + m := by omega
        have fit := growslice_fits hg c2
        have run := run_append_grow w t ty el ti z hu hi hz ⟨ρ.blk i, 0, none⟩ c (c + ρ.room i) (concL ρ b.c.list) (by simp [c1]) (fun q v hv => by
            rw [add_at, cell_of_row w (ρ.blk i) (0 + q) _ b.t (0, 0) b1]
            have hq : q < (concL ρ b.c.list).length := (List.getElem?_eq_some_iff.1 hv).1
            simp only [List.getElem?_toArray, Nat.zero_add]
            rw [List.getElem?_append_left hq]
            exact hv) acx m ccx (concL ρ d.list) hdl news hg (by omega) fit
        have hle := grown_le (w := w) (need := c + m) (old := c + ρ.room i) (e := el)
        refine ⟨ρ.put id w.heap.size (grownCap w (c + m) (c + ρ.room i) el - (c + m)), _, ?_, by simp [Eff.v, sc, also], .inl ⟨grownCap w (c + m) (c + ρ.room i) el - (c + m), w.drawn + 1, (Builtin.zeroCells z.cells (grownCap w (c + m) (c + ρ.room i) el - (c + m))).toList, ?_, scy, rfl, rfl⟩⟩
        · rw [run]
          have hv : conc (ρ.put id w.heap.size (grownCap w (c + m) (c + ρ.room i) el - (c + m))) (.slice (some ⟨id, 0, spotOf y⟩) (c + m) (c + m)) = .slice (some ⟨w.heap.size, 0, none⟩) (c + m) (grownCap w (c + m) (c + ρ.room i) el) := by
            rw [conc_start (by simp [Val.put]) (hex id)]
            simp [Val.put]
            omega
          have hl : ((concL ρ b.c.list).toArray ++ (concL ρ d.list).toArray ++ Builtin.zeroCells z.cells (grownCap w (c + m) (c + ρ.room i) el - (c + m))) = ⟨concL ρ y.list ++ (Builtin.zeroCells z.cells (grownCap w (c + m) (c + ρ.room i) el - (c + m))).toList⟩ := by
            apply Array.ext'
            simp [y1, concL_eq]
          rw [obj_cells ym]
          simp only [Eff.v, hv, World.alloc, World.drew, hl]
        · rw [fits_cells ym]
          simp only [Array.length_toList, zero_cells, hzs, hcell]
  · simp at h

theorem append_arg {t t' ty el : TypeId} {s x : Value} (hu : P.underlying t = some (.slice el)) (ht : isSliceT P t' = true) : (Builtin.append_ #[t, t'] ty #[s, x]).run P w = (Builtin.append_ #[t, t] ty #[s, x]).run P w := by
  unfold isSliceT at ht
  split at ht
  · rename_i el' hu'
    simp only [Builtin.append_, List.getElem?_toArray, List.getElem?_cons_zero, List.getElem?_cons_succ, Sem.run_bind, run_underlying hu, Result.andThen_ok]
    cases s <;> first | rfl | simp only [Sem.run_bind, run_underlying hu, run_underlying hu', Result.andThen_ok, Sem.run_pure]
  · cases ht
theorem ok_append {args : Array Operand} {s x : Value} {t t' : TypeId} (ht' : isSliceT P t' = true) (ho : o.op = .call { callee := .builtin .append, args, argTypes := #[t, t'] }) (hargs : args.map act = #[conc ρ s, conc ρ x]) (hr : Reps P K ρ H w) (hid : ¬ K id)
    (hs : sc K s) (hwn : effWin eff = false) (h : (doAppend P H.get id t s x).get = some eff) : DoOk P K ρ H w id eff ((execOp act o).run P w) := by
  have exec : ∀ {r : Value} {w' : World}, (Builtin.append_ #[t, t] o.type #[conc ρ s, conc ρ x]).run P w = .ok r w' → (execOp act o).run P w = .ok (.value r) w' := by
    intro r w' h
    have hu : ∃ el, P.underlying t = some (.slice el) := by
      rename_i h0
      unfold doAppend at h0
      split at h0
      · exact ⟨_, by assumption⟩
      · simp at h0
    obtain ⟨el, hu⟩ := hu
    rw [← append_arg (t' := t') hu ht'] at h
    simp only [execOp, ho, resolve, Sem.run_bind, Sem.run_pure, Result.andThen_ok, invoke, Go.builtin, hargs, h]
  unfold doAppend at h
  split at h
  · rename_i el ax m cx hu
    cases hi : P.info? el with
    | none => simp [hi] at h
    | some ti =>
      simp only [hi] at h
      cases hz : ti.zero with
      | none => simp [hz] at h
      | some z =>
        simp only [hz] at h
        obtain ⟨hzs, h1⟩ := cond_ne h
        have hzs : z.cells.size = ti.size := by simpa using hzs
        simp only [Tree.get_br] at h1
        by_cases hm : m = 0
        · subst hm
          simp only [decide_true, if_true] at h1
          obtain ⟨v, rfl, hv, run⟩ := stay_ok (K := K) (ρ := ρ) (w := w) (ty := o.type) (ax := ax) (cx := cx) (x := .slice ax 0 cx) hu hi h1 hs rfl
          exact DoOk.ofVal hv (exec run)
        · simp only [hm, decide_false, Bool.false_eq_true, if_false] at h1
          obtain ⟨d, hd, h2⟩ := leaf_ne h1
          unfold srcC at hd
          split at hd
          · rename_i j off sp m' cx' heq
            cases heq
            obtain ⟨bj, hbj, hd2⟩ := opt_ne hd
            obtain ⟨ρ', w', run, hsc, hdo⟩ := grow_ok (s := s) (cx := cx) (ty := o.type) hr hid hu hi hz hzs hm hbj hwn hd2 h2
            refine ⟨ρ', w', _, exec ?_, .inl rfl, hsc, hdo⟩
            have hc : conc ρ (.slice (some ⟨j, off, sp⟩) m cx) = .slice (some (caddr ρ ⟨j, off, sp⟩)) m (ccap ρ ⟨j, off, sp⟩ cx) := by simp [conc]
            rw [hc]
            exact run
          · simp at hd
  · simp at h
end
end Go.Proofs.YtifojacfedjedaaGreat.Ev
end

section
namespace Go.Proofs.YtifojacfedjedaaGreat.Ev
set_option linter.unusedVariables false
set_option linter.unusedSimpArgs false
section
variable {P : Program} {K : Nat → Prop} {ρ : Val} {H : Heap} {w : World} {id : Nat} {e : Operand → Option Value} {act : Operand → Value} {o : Oper} {eff : Eff}

theorem optO_ok {x : Option Operand} {n : Option Int} (he : EOk K ρ e act) (h : optO e x = some n) : (x = none ∧ n = none) ∨ ∃ y k m, x = some y ∧ n = some m ∧ act y = .int k m := by
  cases x with
  | none => simp [optO] at h; exact .inl ⟨rfl, h.symm⟩
  | some y =>
    simp only [optO] at h
    split at h
    · rename_i k m hy
      simp at h
      exact .inr ⟨y, k, m, rfl, h.symm, by simpa [conc] using (he y _ hy).1⟩
    · simp at h
theorem optO_none {x : Option Operand} (he : EOk K ρ e act) (h : optO e x = some none) : x = none := by
  rcases optO_ok he h with ⟨rfl, _⟩ | ⟨_, _, _, _, hb, _⟩
  · rfl
  · cases hb
theorem optO_some {x : Option Operand} {m : Int} (he : EOk K ρ e act) (h : optO e x = some (some m)) : ∃ y k, x = some y ∧ act y = .int k m := by
  rcases optO_ok he h with ⟨_, hb⟩ | ⟨y, k, m', h1, hb, h2⟩
  · cases hb
  · cases hb; exact ⟨y, k, h1, h2⟩
theorem run_bound (k : IntKind) (n : Int) (y : Nat) (code : BoundsCode) (h : 0 ≤ n ∧ n ≤ y) : (Instr.sliceBound (.int k n) y code).run P w = .ok n.toNat w := by
  simp [Instr.sliceBound, asIntOf, h]
theorem cutAddr_ok {a b : Addr} {size l : Nat} (h : cutAddr a size l = some b) : caddr ρ b = (caddr ρ a).add (l * size) ∧ (exact_ b = exact_ a) ∧ b.block = a.block := by
  obtain ⟨i, off, sp⟩ := a
  cases sp with
  | none => simp [cutAddr] at h; subst h; exact ⟨by simp [add_at, Nat.add_assoc], rfl, rfl⟩
  | some s =>
    simp only [cutAddr] at h
    cases hs : (s % 4096 == 0) with
    | false => simp [hs] at h
    | true =>
      simp only [hs, cond_true] at h
      have hs' : s % 4096 = 0 := by simpa using hs
      cases hw : (wOf s == size) with
      | true =>
        simp [hw] at h
        subst h
        have hw' : s % 1048576 / 4096 = size := by simpa [wOf] using hw
        exact ⟨by simp [caddr, add_at, hs', hw', Nat.add_mul, Nat.add_assoc], rfl, rfl⟩
      | false =>
        simp only [hw, cond_false] at h
        cases hw1 : (wOf s == 1) with
        | false => simp [hw1] at h
        | true =>
          simp [hw1] at h
          subst h
          have hw' : s % 1048576 / 4096 = 1 := by simpa [wOf] using hw1
          exact ⟨by simp [caddr, add_at, hs', hw', Nat.add_assoc], rfl, rfl⟩
theorem exactAddr_ok (a : Addr) : caddr ρ (exactAddr a) = caddr ρ a ∧ exact_ (exactAddr a) = true ∧ (exactAddr a).block = a.block := by
  obtain ⟨i, off, sp⟩ := a
  cases sp with
  | none => exact ⟨by simp [caddr, exactAddr], rfl, rfl⟩
  | some s =>
    refine ⟨?_, by simp [exactAddr, exact_], rfl⟩
    have e1 : (s % 1048576 + 1048576) % 1048576 / 4096 = s % 1048576 / 4096 := by omega
    have e2 : (s % 1048576 + 1048576) % 4096 = s % 4096 := by omega
    simp [caddr, exactAddr, e1, e2]

theorem run_bounds {isS : Bool} {len cap : Nat} {low high : Option Operand} {lo hi : Option Int} (he : EOk K ρ e act) (hlo : optO e low = some lo) (hhi : optO e high = some hi) (c1 : 0 ≤ lo.getD 0) (c2 : lo.getD 0 ≤ hi.getD len) (c3 : hi.getD len ≤ cap) :
    (Instr.sliceBounds isS len cap (low.map act) (high.map act) none).run P w = .ok ((lo.getD 0).toNat, (hi.getD len).toNat, cap) w := by
  rcases optO_ok he hlo with ⟨rfl, rfl⟩ | ⟨yl, kl, ml, rfl, rfl, el⟩ <;> rcases optO_ok he hhi with ⟨rfl, rfl⟩ | ⟨yh, kh, mh, rfl, rfl, eh⟩
  · simp [Instr.sliceBounds]
  · simp only [Option.getD_some] at c2 c3
    have b := run_bound (P := P) (w := w) kh mh cap (if isS = true then .sliceAcap else .sliceAlen) ⟨by simp at c1 c2; omega, c3⟩
    simp only [Instr.sliceBounds, Option.map_some, Option.map_none, eh, Sem.run_bind, Sem.run_pure, Result.andThen_ok, b, Option.getD_some, Option.getD_none]
    rfl
  · simp only [Option.getD_some, Option.getD_none] at c1 c2 c3
    have b := run_bound (P := P) (w := w) kl ml len .sliceB ⟨c1, c2⟩
    simp only [Instr.sliceBounds, Option.map_some, Option.map_none, el, Sem.run_bind, Sem.run_pure, Result.andThen_ok, Option.isSome_none, Bool.false_eq_true, if_false, b, Option.getD_some, Option.getD_none]
    simp
  · simp only [Option.getD_some] at c1 c2 c3
    have b := run_bound (P := P) (w := w) kh mh cap (if isS = true then .sliceAcap else .sliceAlen) ⟨by omega, c3⟩
    have b2 := run_bound (P := P) (w := w) kl ml mh.toNat .sliceB ⟨c1, by omega⟩
    simp only [Instr.sliceBounds, Option.map_some, Option.map_none, el, eh, Sem.run_bind, Sem.run_pure, Result.andThen_ok, b, Option.isSome_none, Bool.false_eq_true, if_false, b2, Option.getD_some]
theorem run_bounds3 {len cap : Nat} {kh km : IntKind} {h m : Int} (c1 : 0 ≤ h) (c2 : h ≤ m) (c3 : m ≤ cap) :
    (Instr.sliceBounds true len cap none (some (.int kh h)) (some (.int km m))).run P w = .ok (0, h.toNat, m.toNat) w := by
  have b1 := run_bound (P := P) (w := w) km m cap .slice3Acap ⟨by omega, c3⟩
  have b2 := run_bound (P := P) (w := w) kh h m.toNat .slice3B ⟨c1, by omega⟩
  simp only [Instr.sliceBounds, Sem.run_bind, Sem.run_pure, Result.andThen_ok, if_true, b1, b2]

theorem br_ne2 {α : Type} {q : Bool} {t : Tree α} {r : α} (h : (Tree.br q t .bad).get = some r) : q = true ∧ t.get = some r := by
  cases q
  · simp at h
  · exact ⟨rfl, by simpa using h⟩
theorem add_spot {a : Addr} {n : Nat} (h : a.spot = none) : (a.add n).spot = none := by
  obtain ⟨b, o, s⟩ := a
  simp only at h
  subst h
  simp [add_at]
theorem ok_slice {t : TypeId} {x : Operand} {low high max : Option Operand} (ho : o.op = .slice t x low high max) (he : EOk K ρ e act) (h : (dop0 P o.op e H.get id).get = some eff) : DoOk P K ρ H w id eff ((execOp act o).run P w) := by
  rw [ho] at h
  simp only [dop0, doSlice] at h
  obtain ⟨v, hx, h9⟩ := opt_ne h
  clear h; have h := h9; clear h9
  obtain ⟨lo, hlo, h9⟩ := opt_ne h
  clear h; have h := h9; clear h9
  obtain ⟨hi, hhi, h9⟩ := opt_ne h
  clear h; have h := h9; clear h9
  obtain ⟨mx, hmx, h9⟩ := opt_ne h
  clear h; have h := h9; clear h9
  obtain ⟨h1, h2⟩ := he x v hx
  have exec : ∀ {r : Value}, (Instr.sliceAt t (act x) (low.map act) (high.map act) (max.map act)).run P w = .ok r w → (execOp act o).run P w = .ok (.value r) w := by
    intro r hr
    simp only [execOp, ho, Sem.run_bind, hr, Result.andThen_ok, Sem.run_pure]
  split at h
  · rename_i el a len cap hu
    cases hti : P.info? el with
    | none => simp [hti] at h
    | some ti =>
      simp only [hti] at h
      rw [Tree.get_br] at h
      split at h
      case isFalse =>
        obtain ⟨hq, h9⟩ := br_ne2 h
        simp only [Tree.get_leaf, Option.some.injEq] at h9
        subst h9
        simp only [Bool.and_eq_true, Bool.not_eq_true', decide_eq_true_eq] at hq
        obtain ⟨hx, c1, c2, c3, c4⟩ := hq
        obtain rfl := optO_none he hmx
        have hcap : cap ≤ ccap ρ a cap := ccap_le a cap
        have rb := run_bounds (P := P) (w := w) (isS := true) (len := len) (cap := ccap ρ a cap) he hlo hhi c1 (by omega) (by omega)
        obtain ⟨Y, hY⟩ : ∃ Y, (if ccap ρ a cap = (lo.getD 0).toNat then some (caddr ρ a) else (some (caddr ρ a)).map (·.add ((lo.getD 0).toNat * ti.size))) = some Y := by split <;> exact ⟨_, rfl⟩
        have hsp : Y.spot = none := by
          split at hY
          · cases hY; exact caddr_spot ρ a
          · simp only [Option.map_some, Option.some.injEq] at hY
            subst hY
            exact add_spot (caddr_spot ρ a)
        refine ⟨ρ.lay id Y.block (ccap ρ a cap - cap) Y.off, w, _, exec (r := .slice (some Y) 0 (ccap ρ a cap - cap)) ?_, .inl ?_, ?_, .inr ⟨rfl, _, _, _, rfl⟩, rfl⟩
        · rw [h1]
          simp only [Instr.sliceAt, Instr.slice, conc, Sem.run_bind, run_underlying hu, Result.andThen_ok, Sem.run_pure, sizeOf, typeInfo, run_program, hti, Option.map_none, rb, hY]
          rw [show (hi.getD (len : Int)).toNat - (lo.getD 0).toNat = 0 by omega, show (lo.getD 0).toNat = cap by omega]
        · obtain ⟨yb, yo, ys⟩ := Y
          simp only at hsp
          subst hsp
          simp only [Eff.v, conc, caddr_none, ccap_none, Val.lay, if_true, Nat.add_zero, Nat.zero_add]
        · simp [Eff.v, sc, also]
      rename_i hcc0
      simp only [decide_eq_true_eq] at hcc0
      obtain ⟨c1, c2, c3, c4, c5⟩ := hcc0
      have h9 := h
      obtain ⟨b, hb, h8⟩ := opt_ne h9
      simp at h8
      subst h8
      obtain ⟨q1, q2, q3⟩ := cutAddr_ok (ρ := ρ) hb
      obtain rfl := optO_none he hmx
      have hcap : cap ≤ ccap ρ a cap := ccap_le a cap
      have rb := run_bounds (P := P) (w := w) (isS := true) (len := len) (cap := ccap ρ a cap) he hlo hhi c1 c2 (by omega)
      refine DoOk.ofVal (by simp only [sc, q3]; simpa [sc] using h2) (exec ?_)
      rw [h1]
      simp only [Instr.sliceAt, Instr.slice, conc, Sem.run_bind, run_underlying hu, Result.andThen_ok, Sem.run_pure, sizeOf, typeInfo, run_program, hti, Option.map_none, rb]
      have hcc : ccap ρ b (cap - (lo.getD 0).toNat) = ccap ρ a cap - (lo.getD 0).toNat := by
        unfold ccap
        rw [q2, q3]
        cases exact_ a <;> simp
        omega
      rw [hcc, q1]
      congr 2
      split
      · rename_i hm
        rcases c5 with c5 | c5
        · omega
        · have : (lo.getD 0).toNat = 0 := by omega
          rw [this]; simp [Addr.add]
      · rfl
  · rename_i el len cap hu
    cases hti : P.info? el with
    | none => simp [hti] at h
    | some ti =>
      simp only [hti] at h
      obtain ⟨⟨c1, c2, c3, c4⟩, h9⟩ := br_ne h
      simp at h9
      subst h9
      obtain rfl := optO_none he hmx
      have rb := run_bounds (P := P) (w := w) (isS := true) (len := len) (cap := cap) he hlo hhi c1 c2 (by omega)
      refine DoOk.ofVal (by simp [sc]) (exec ?_)
      rw [h1]
      simp only [Instr.sliceAt, Instr.slice, conc, Sem.run_bind, run_underlying hu, Result.andThen_ok, Sem.run_pure, sizeOf, typeInfo, run_program, hti, Option.map_none, rb]
      simp
  · rename_i el a len cap m hu
    split at h
    · rename_i ti hh hti
      obtain ⟨⟨c1, c2, c3⟩, h9⟩ := br_ne h
      simp at h9
      subst h9
      obtain rfl := optO_none he hlo
      obtain ⟨ym, km, rfl, em⟩ := optO_some he hmx
      obtain ⟨yh, kh, rfl, eh⟩ := optO_some he hhi
      obtain ⟨q1, q2, q3⟩ := exactAddr_ok (ρ := ρ) a
      have hcap : cap ≤ ccap ρ a cap := ccap_le a cap
      have rb := run_bounds3 (P := P) (w := w) (len := len) (cap := ccap ρ a cap) (kh := kh) (km := km) c1 c2 (by omega)
      refine DoOk.ofVal (by simp only [sc, q3]; simpa [sc] using h2) (exec ?_)
      rw [h1]
      simp only [Instr.sliceAt, Instr.slice, conc, Sem.run_bind, run_underlying hu, Result.andThen_ok, Sem.run_pure, sizeOf, typeInfo, run_program, hti, Option.map_none, Option.map_some, em, eh, rb]
      have hcc : ccap ρ (exactAddr a) m.toNat = m.toNat := by simp [ccap, q2]
      rw [hcc, q1]
      simp [Addr.add]
    · simp at h
  · rename_i el len cap m hu
    split at h
    · rename_i ti hh hti
      obtain ⟨⟨c1, c2, c3⟩, h9⟩ := br_ne h
      simp at h9
      subst h9
      obtain rfl := optO_none he hlo
      obtain ⟨ym, km, rfl, em⟩ := optO_some he hmx
      obtain ⟨yh, kh, rfl, eh⟩ := optO_some he hhi
      have rb := run_bounds3 (P := P) (w := w) (len := len) (cap := cap) (kh := kh) (km := km) c1 c2 (by omega)
      refine DoOk.ofVal (by simp [sc]) (exec ?_)
      rw [h1]
      simp only [Instr.sliceAt, Instr.slice, conc, Sem.run_bind, run_underlying hu, Result.andThen_ok, Sem.run_pure, sizeOf, typeInfo, run_program, hti, Option.map_none, Option.map_some, em, eh, rb]
      simp
    · simp at h
  · rename_i n el i off hu
    split at h
    · rename_i ti hti
      simp at h
      subst h
      obtain rfl := optO_none he hlo
      obtain rfl := optO_none he hhi
      obtain rfl := optO_none he hmx
      refine DoOk.ofVal (by simpa [sc] using h2) (exec ?_)
      rw [h1]
      simp [Instr.sliceAt, Instr.sureAddr, conc, run_underlying hu, Instr.sliceBounds, sizeOf, typeInfo, hti, Addr.add, caddr, ccap, exact_]
      rfl
    · simp at h
  · rename_i s hu
    obtain ⟨⟨c1, c2, c3⟩, h9⟩ := br_ne h
    simp at h9
    subst h9
    obtain rfl := optO_none he hmx
    have rb := run_bounds (P := P) (w := w) (isS := false) (len := s.size) (cap := s.size) he hlo hhi c1 c2 (by omega)
    refine DoOk.ofVal (by simp [sc]) (exec ?_)
    rw [h1]
    simp only [Instr.sliceAt, Instr.slice, conc, Sem.run_bind, run_underlying hu, Result.andThen_ok, Sem.run_pure, Option.map_none, Option.isSome_none, Bool.false_eq_true, if_false, rb]
  · simp at h

theorem ok_index {t : TypeId} {x ix : Operand} (ho : o.op = .index t x ix) (he : EOk K ρ e act) (h : (dop0 P o.op e H.get id).get = some eff) : DoOk P K ρ H w id eff ((execOp act o).run P w) := by
  rw [ho] at h
  simp only [dop0, doIndex] at h
  obtain ⟨v, hx, h9⟩ := opt_ne h
  clear h; have h := h9; clear h9
  obtain ⟨j, hj, h9⟩ := opt_ne h
  clear h; have h := h9; clear h9
  obtain ⟨h1, h2⟩ := he x v hx
  obtain ⟨j1, j2⟩ := he ix j hj
  split at h
  · rename_i len el cs k n hu
    cases hti : P.info? el with
    | none => simp [hti] at h
    | some ti =>
      simp only [hti] at h
      obtain ⟨c1, h9⟩ := br_ne h
      clear h; have h := h9; clear h9
      obtain ⟨ag, hag, h9⟩ := opt_ne h
      clear h; have h := h9; clear h9
      simp only [isAggT] at hag
      cases hue : P.underlying el with
      | none => simp [hue] at hag
      | some u =>
        simp [hue] at hag
        simp only [sc] at h2
        cases hb : ag with
        | true =>
          subst hb
          simp only [cond_true] at h
          obtain ⟨r, hr, h9⟩ := opt_ne h
          clear h; have h := h9; clear h9
          simp at h
          subst h
          obtain ⟨r1, r2⟩ := takeAt_eq _ _ _ _ hr
          have hx2 : (concA ρ cs).extract (n.toNat * ti.size) (n.toNat * ti.size + ti.size) = concA ρ ⟨r⟩ := by
            apply Array.ext'
            subst r1
            simp [concA_eq, List.map_take, List.map_drop]
          refine DoOk.ofVal ?_ ?_
          · simp only [sc, scA, scL_iff]
            subst r1
            exact fun v hv => (scA_iff.1 h2) v (List.mem_of_mem_drop (List.mem_of_mem_take hv))
          · have hp := run_part_agg (P := P) (cs := concA ρ cs) (off := n.toNat * ti.size) hue hag hti w
            simp only [execOp, ho, h1, j1, conc, Instr.index, asIntOf, Sem.run_bind, Sem.run_pure, Result.andThen_ok, run_underlying hu, c1, and_self, if_true, sizeOf, typeInfo, run_program, hti, hp, hx2]
        | false =>
          subst hb
          simp only [cond_false] at h
          obtain ⟨r, hr, h9⟩ := opt_ne h
          clear h; have h := h9; clear h9
          simp at h
          subst h
          rw [nth_eq] at hr
          have hx2 : (concA ρ cs)[n.toNat * ti.size]? = some (conc ρ r) := by
            rw [concA_eq]
            simp only [Array.getElem?_map]
            rw [← Array.getElem?_toList, hr]
            rfl
          refine DoOk.ofVal ((scA_iff.1 h2) r (List.mem_of_getElem? hr)) ?_
          have hp := run_part_one (P := P) (cs := concA ρ cs) (off := n.toNat * ti.size) hue hag hx2 w
          simp only [execOp, ho, h1, j1, conc, Instr.index, asIntOf, Sem.run_bind, Sem.run_pure, Result.andThen_ok, run_underlying hu, c1, and_self, if_true, sizeOf, typeInfo, run_program, hti, hp]
  · rename_i s k n hu
    obtain ⟨c1, h9⟩ := br_ne h
    clear h; have h := h9; clear h9
    simp at h
    subst h
    refine DoOk.ofVal (by simp [sc]) ?_
    have hlt : n.toNat < s.size := by omega
    have hg : s[n.toNat]? = some (s.get! n.toNat) := by
      rw [getElem?_pos s n.toNat hlt]
      congr 1
      simp [ByteArray.get!, ByteArray.getElem_eq_getElem_data, getElem!_pos, hlt]
    simp [execOp, ho, h1, j1, conc, Instr.index, asIntOf, run_underlying hu, c1.1, hg]
  · simp at h

theorem ok_iface {t : TypeId} {x : Operand} (ho : o.op = .makeInterface t x) (he : EOk K ρ e act) (h : (dop0 P o.op e H.get id).get = some eff) : DoOk P K ρ H w id eff ((execOp act o).run P w) := by
  rw [ho] at h
  simp only [dop0, doIface] at h
  obtain ⟨v, hx, h9⟩ := opt_ne h
  clear h; have h := h9; clear h9
  obtain ⟨h1, h2⟩ := he x v hx
  split at h
  · simp at h
  · rename_i u hu hne
    simp at h
    subst h
    refine DoOk.ofVal (by simpa [sc] using h2) ?_
    have : (Instr.makeInterface t (conc ρ v)).run P w = .ok (.iface t (conc ρ v)) w := by
      simp only [Instr.makeInterface, Sem.run_bind, run_underlying hne, Result.andThen_ok]
      cases u <;> first | rfl | exact absurd rfl (hu _)
    simp only [execOp, ho, h1, Sem.run_bind, this, Result.andThen_ok, Sem.run_pure, conc]
  · simp at h

theorem mm_none {want : Array (String × TypeId)} {got : Array Method} (h : gotAll want got = true) : Instr.missingMethod want got = none := by
  have e : (want.toList.filter fun (x : String × TypeId) => match x with | (name, sig) => !got.any fun m => m.name == name && m.sig == sig) = [] := by
    rw [List.filter_eq_nil_iff]
    rintro ⟨n, t⟩ hm
    simp only [gotAll, List.all_eq_true] at h
    have := h (n, t) hm
    simp only [this, Bool.not_true, Bool.false_eq_true, not_false_eq_true]
  unfold Instr.missingMethod
  simp only [e, List.map_nil, List.partition_eq_filter_filter, List.filter_nil, Instr.least]
  rfl
theorem mm_some {want : Array (String × TypeId)} {got : Array Method} (h : gotAll want got = false) : ∃ m, Instr.missingMethod want got = some m := by
  obtain ⟨p, hp, hq⟩ : ∃ p ∈ want.toList, (got.any fun m => m.name == p.1 && m.sig == p.2) = false := by
    simp only [gotAll, List.all_eq_false, Bool.not_eq_true] at h
    exact h
  have hm : p.1 ∈ (want.toList.filter fun (x : String × TypeId) => match x with | (name, sig) => !got.any fun m => m.name == name && m.sig == sig).map (·.1) := by
    refine List.mem_map.2 ⟨p, List.mem_filter.2 ⟨hp, ?_⟩, rfl⟩
    obtain ⟨n, t⟩ := p
    simp only [hq, Bool.not_false]
  unfold Instr.missingMethod
  simp only [List.partition_eq_filter_filter]
  generalize (want.toList.filter fun (x : String × TypeId) => match x with | (name, sig) => !got.any fun m => m.name == name && m.sig == sig).map (·.1) = l at hm
  have least_some : ∀ {l : List String}, l ≠ [] → ∃ m, Instr.least l = some m := by
    intro l hl
    cases l with
    | nil => exact absurd rfl hl
    | cons a l => exact ⟨_, rfl⟩
  cases he : Instr.least (l.filter (not ∘ fun x => x.contains '.')) with
  | some m => exact ⟨m, rfl⟩
  | none =>
    have hu : l.filter (fun x => x.contains '.') ≠ [] := by
      intro hx
      cases hc : p.1.contains '.' with
      | true =>
        have : p.1 ∈ l.filter (fun x => x.contains '.') := List.mem_filter.2 ⟨hm, hc⟩
        rw [hx] at this
        cases this
      | false =>
        have : p.1 ∈ l.filter (not ∘ fun x => x.contains '.') := List.mem_filter.2 ⟨hm, by show (!(p.1.contains '.')) = true; rw [hc]; rfl⟩
        obtain ⟨m, e⟩ := least_some (List.ne_nil_of_mem this)
        rw [he] at e
        cases e
    obtain ⟨m, e⟩ := least_some (l := (l.filter (fun x => x.contains '.')).map fun id => (id.splitOn ".").getLastD id) (by simpa using hu)
    exact ⟨m, e⟩
theorem ok_assert {x : Operand} {xt t : TypeId} {ok : Bool} (ho : o.op = .typeAssert x xt t ok) (he : EOk K ρ e act) (h : (dop0 P o.op e H.get id).get = some eff) : DoOk P K ρ H w id eff ((execOp act o).run P w) := by
  rw [ho] at h
  simp only [dop0, doAssert] at h
  obtain ⟨v, hx, h9⟩ := opt_ne h
  clear h; have h := h9; clear h9
  obtain ⟨h1, h2⟩ := he x v hx
  split at h
  case h_2 => simp at h
  rename_i u i hu hi
  cases hz : i.zero with
  | none => simp [hz] at h
  | some z =>
    simp only [hz] at h
    obtain ⟨hp, h9⟩ := cond_ne h
    clear h; have h := h9; clear h9
    have fails : ∀ {r : Value} (s d : Option TypeId) (m : String), (cond ok (.leaf (.val (.tuple #[z, .bool false]))) .bad : Tree Eff).get = some eff → eff = .val (.tuple #[z, .bool false]) ∧ ok = true := by
      intro r s d m h
      cases ok <;> simp at h
      exact ⟨h.symm, rfl⟩
    have zero : (zeroValue t).run P w = .ok z w := by simp [zeroValue, typeInfo, hi, hz]
    have cz : conc ρ z = z := conc_plain ρ z hp
    have dn : ∀ {r : Value}, sc K r → (Instr.typeAssert (conc ρ v) xt t ok).run P w = .ok (conc ρ r) w → DoOk P K ρ H w id (.val r) ((execOp act o).run P w) := by
      intro r hs hr
      refine DoOk.ofVal hs ?_
      simp only [execOp, ho, h1, Sem.run_bind, hr, Result.andThen_ok, Sem.run_pure]
    have ctz : conc ρ (.tuple #[z, .bool false]) = .tuple #[z, .bool false] := by simp [conc, concA, concL, cz]
    have stz : sc K (.tuple #[z, .bool false]) := by simp [sc, scA, scL, sc_plain K z hp]
    split at h
    · rename_i want d y
      obtain ⟨b, hb, h9⟩ := opt_ne h
      clear h; have h := h9; clear h9
      unfold hasAll at hb
      cases hd : P.info? d with
      | none => simp [hd] at hb
      | some di =>
        simp only [hd, Option.some.injEq] at hb
        cases b with
        | true =>
          simp at h
          subst h
          have hmm : Instr.missingMethod want di.methods = none := mm_none hb
          refine dn (by cases ok <;> simpa [sc, scA, scL] using h2) ?_
          simp only [Instr.typeAssert, Sem.run_bind, run_underlying hu, Result.andThen_ok, conc, typeInfo, run_program, hd, Sem.run_pure, hmm]
          cases ok <;> simp [conc, concA, concL]
        | false =>
          simp only [cond_false] at h
          obtain ⟨rfl, rfl⟩ := fails (r := z) none none "" h
          obtain ⟨m, hmm⟩ : ∃ m, Instr.missingMethod want di.methods = some m := mm_some hb
          refine dn stz ?_
          rw [ctz]
          simp only [Instr.typeAssert, Sem.run_bind, run_underlying hu, Result.andThen_ok, conc, typeInfo, run_program, hd, Sem.run_pure, hmm]
          simp [zero]
    · obtain ⟨rfl, rfl⟩ := fails (r := z) none none "" h
      refine dn stz ?_
      rw [ctz]
      simp [Instr.typeAssert, run_underlying hu, conc, zero]
    · rename_i u' hne
      obtain ⟨rfl, rfl⟩ := fails (r := z) none none "" h
      refine dn stz ?_
      rw [ctz]
      simp only [Instr.typeAssert, Sem.run_bind, run_underlying hu, Result.andThen_ok, conc]
      cases u <;> simp [zero]
    · rename_i u' d y hne
      cases hdt : Nat.beq d t with
      | true =>
        simp [hdt] at h
        subst h
        obtain rfl := Nat.eq_of_beq_eq_true hdt
        refine dn (by cases ok <;> simpa [sc, scA, scL] using h2) ?_
        simp only [Instr.typeAssert, Sem.run_bind, run_underlying hu, Result.andThen_ok, conc]
        cases u <;> first | (exact absurd rfl (hne _)) | (cases ok <;> simp [conc, concA, concL])
      | false =>
        simp only [hdt, cond_false] at h
        obtain ⟨rfl, rfl⟩ := fails (r := z) none none "" h
        have hne' : d ≠ t := fun x => by subst x; simp at hdt
        refine dn stz ?_
        rw [ctz]
        simp only [Instr.typeAssert, Sem.run_bind, run_underlying hu, Result.andThen_ok, conc]
        cases u <;> first | (exact absurd rfl (hne _)) | simp [zero, hne']
    · simp at h

theorem ok_makeMap {t : TypeId} {r : Option Operand} (ho : o.op = .makeMap t r) (hid : ¬ K id) (h : (dop0 P o.op e H.get id).get = some eff) : DoOk P K ρ H w id eff ((execOp act o).run P w) := by
  rw [ho] at h
  simp only [dop0, doMakeMap] at h
  cases r with
  | some _ => simp at h
  | none =>
    simp at h
    subst h
    refine ⟨ρ.put id w.heap.size 0, _, _, ?_, .inl rfl, ?_, 0, w.drawn, [.int .i64 0], ?_, ?_, rfl, rfl⟩
    · simp only [execOp, ho, Option.map_none, Instr.makeMap, Sem.run_bind, Sem.run_pure, Result.andThen_ok, run_newObj]
      simp [Eff.v, conc, Val.put, obj, entries, bornOf]
    · simp [Eff.v, sc, also]
    · simp [fits]
    · simp [Cells.list, flatM, scL]
theorem findI_ok {k : IntKind} {n : Int} : ∀ {es : List (Value × Value)} {i : Nat} {q : Option (Nat × Value)} (ex : List Value), (findI k n es i).get = some q →
    Instr.findNow (.int k) (.int k n) (entries ρ es ex) i = some (q.map fun p => (p.1, conc ρ p.2)) ∧ ∀ p, q = some p → ∃ j, p.1 = i + j ∧ es[j]? = some (.int k n, p.2)
  | [], i, q, ex, h => by
    simp [findI] at h
    subst h
    exact ⟨rfl, fun p hp => by cases hp⟩
  | (key, v) :: es, i, q, ex, h => by
    cases key with
    | int k' m =>
      simp only [findI] at h
      obtain ⟨hk, h9⟩ := cond_ne h
      have hk' : k' = k := by simpa using hk
      subst hk'
      rw [Tree.get_br] at h9
      by_cases hn : (n == m) = true
      · rw [if_pos hn] at h9
        simp at h9
        subst h9
        have hn' : n = m := by simpa using hn
        subst hn'
        exact ⟨by simp [entries, Instr.findNow, Instr.sameNow, conc], fun p hp => by cases hp; exact ⟨0, rfl, rfl⟩⟩
      · rw [if_neg hn] at h9
        obtain ⟨g1, g2⟩ := findI_ok ex.tail h9
        have hn' : (n == m) = false := by simpa using hn
        refine ⟨by simp [entries, Instr.findNow, Instr.sameNow, conc, hn', g1], fun p hp => ?_⟩
        obtain ⟨j, j1, j2⟩ := g2 p hp
        exact ⟨j + 1, by omega, by simpa using j2⟩
    | _ => simp [findI] at h
theorem run_checkKey {key : TypeId} {k : IntKind} {v : Value} (hk : P.underlying key = some (.int k)) (b : Bool) (n : Nat) : (Instr.checkKey b (n + 1) key v).run P w = .ok () w := by
  simp only [Instr.checkKey, Sem.run_bind, run_underlying hk, Result.andThen_ok, Sem.run_pure]
theorem intKey_eq {t : TypeId} {k : IntKind} (h : intKey P t = some k) : P.underlying t = some (.int k) := by
  unfold intKey at h
  split at h
  · simp at h; subst h; assumption
  · cases h

def ansOf (z : Value) (ok : Bool) : Option (Nat × Value) → Value
  | some (_, v) => cond ok (.tuple #[v, .bool true]) v
  | none => cond ok (.tuple #[z, .bool false]) z
theorem ok_lookup {t : TypeId} {x ix : Operand} {ok : Bool} (ho : o.op = .lookup t x ix ok) (he : EOk K ρ e act) (hr : Reps P K ρ H w) (h : (dop0 P o.op e H.get id).get = some eff) : DoOk P K ρ H w id eff ((execOp act o).run P w) := by
  rw [ho] at h
  simp only [dop0, doLookup] at h
  obtain ⟨m, hx, h9⟩ := opt_ne h
  clear h; have h := h9; clear h9
  obtain ⟨j, hj, h9⟩ := opt_ne h
  clear h; have h := h9; clear h9
  obtain ⟨h1, h2⟩ := he x m hx
  obtain ⟨j1, j2⟩ := he ix j hj
  split at h
  case h_2 => simp at h
  rename_i key el k n hu
  split at h
  case h_2 => simp at h
  rename_i k' i hk hi
  cases hz : i.zero with
  | none => simp [hz] at h
  | some z =>
    simp only [hz] at h
    obtain ⟨hc, h9⟩ := cond_ne h
    simp only [Bool.and_eq_true, decide_eq_true_eq] at hc
    obtain ⟨rfl, hp⟩ := hc
    obtain ⟨es, hes, h8⟩ := opt_ne h9
    obtain ⟨q, hq, h7⟩ := leaf_ne h8
    clear h h8 h9
    have hkey := intKey_eq hk
    have zero : (zeroValue el).run P w = .ok z w := by simp [zeroValue, typeInfo, hi, hz]
    have cz : conc ρ z = z := conc_plain ρ z hp
    have fin : ∀ (es' : List (Value × Value)) (ex : List Value), es' = es → (∀ p ∈ es', sc K p.2) → (∀ (r : Option (Nat × Value)), Instr.findNow (.int k) (.int k n) (entries ρ es' ex) 0 = some (r.map fun p => (p.1, conc ρ p.2)) →
        (Instr.lookup t (conc ρ m) (conc ρ (.int k n)) ok).run P w = .ok (conc ρ (ansOf z ok r)) w) → DoOk P K ρ H w id eff ((execOp act o).run P w) := by
      intro es' ex hes' hsc hrun
      subst hes'
      obtain ⟨f1, f2⟩ := findI_ok (ρ := ρ) ex hq
      have run := hrun q f1
      have exec : (execOp act o).run P w = .ok (.value (conc ρ (ansOf z ok q))) w := by
        simp only [execOp, ho, h1, j1, Sem.run_bind, run, Result.andThen_ok, Sem.run_pure]
      cases q with
      | none =>
        simp at h7
        subst h7
        exact DoOk.ofVal (by cases ok <;> simp [sc, scA, scL, sc_plain K z hp]) exec
      | some p =>
        simp at h7
        subst h7
        obtain ⟨jj, _, e2⟩ := f2 _ rfl
        have := hsc _ (List.mem_of_getElem? e2)
        exact DoOk.ofVal (by cases ok <;> simpa [sc, scA, scL] using this) exec
    unfold entriesOf at hes
    split at hes
    · simp at hes
      refine fin [] [] hes.symm (by simp) (fun r f1 => ?_)
      simp only [entries] at f1
      simp only [Instr.lookup, Sem.run_bind, run_underlying hu, Result.andThen_ok, conc, Sem.run_pure, run_checkKey hkey, Instr.findKey, run_underlying hkey, f1]
      cases r with
      | none => cases ok <;> simp [zero, conc, concA, concL, cz, ansOf]
      | some p => cases ok <;> simp [conc, concA, concL, ansOf]
    · rename_i r
      split at hes
      · rename_i bt es' hg
        simp at hes
        obtain ⟨ex, b1, _, _⟩ := hr.row r _ hg (hr.mapRow r _ hg rfl)
        have hk2 := (hr.known r _ hg).2
        rw [scL_iff] at hk2
        refine fin es' ex.tail hes (fun p hp => hk2 p.2 (by simp only [Cells.list, flatM, List.mem_flatMap]; exact ⟨p, hp, by simp⟩)) (fun q f1 => ?_)
        simp only [obj] at b1
        have get : (getObj (ρ.blk r)).run P w = .ok (.map ⟨entries ρ es' ex.tail⟩ (bornOf ex)) w := by
          simp [getObj, Sem.run, b1]
        simp only [Instr.lookup, Sem.run_bind, run_underlying hu, Result.andThen_ok, conc, Sem.run_pure, get, run_checkKey hkey, Instr.findKey, run_underlying hkey, f1]
        cases q with
        | none => cases ok <;> simp [zero, conc, concA, concL, cz, ansOf]
        | some p => cases ok <;> simp [conc, concA, concL, ansOf]
      · cases hes
    · cases hes

theorem setE_entries (ex : List Value) (k v : Value) : ∀ (es : List (Value × Value)) (i : Nat) (ex : List Value), entries ρ (setE es i (k, v)) ex = (entries ρ es ex).modify i fun q => { q with key := conc ρ k, val := conc ρ v }
  | [], i, ex => by cases i <;> rfl
  | p :: es, 0, ex => rfl
  | p :: es, i + 1, ex => by
    simp only [setE, entries, List.modify_succ_cons]
    rw [setE_entries ex k v es i ex.tail]
theorem setE_length (q : Value × Value) : ∀ (es : List (Value × Value)) (i : Nat), (setE es i q).length = es.length
  | [], i => by cases i <;> rfl
  | p :: es, 0 => rfl
  | p :: es, i + 1 => by simp [setE, setE_length q es i]
theorem setE_mem (q : Value × Value) : ∀ (es : List (Value × Value)) (i : Nat) {p : Value × Value}, p ∈ setE es i q → p = q ∨ p ∈ es
  | [], i, p, h => by cases i <;> simp [setE] at h
  | a :: es, 0, p, h => by
    simp [setE] at h ⊢
    rcases h with h | h
    · exact .inl h
    · exact .inr (.inr h)
  | a :: es, i + 1, p, h => by
    simp [setE] at h ⊢
    rcases h with h | h
    · exact .inr (.inl h)
    · rcases setE_mem q es i h with h | h
      · exact .inl h
      · exact .inr (.inr h)
theorem entries_push {k v : Value} {n : Nat} : ∀ {es : List (Value × Value)} {ex : List Value}, ex.length = es.length → entries ρ (es ++ [(k, v)]) (ex ++ [.int .i64 n]) = entries ρ es ex ++ [⟨conc ρ k, conc ρ v, n⟩]
  | [], [], _ => by simp [entries, bornOf]
  | [], _ :: _, h => by simp at h
  | _ :: _, [], h => by simp at h
  | p :: es, x :: ex, h => by
    simp only [List.cons_append, entries, List.tail_cons]
    rw [entries_push (by simpa using h)]
    cases x <;> rfl
theorem ok_mapUpdate {t : TypeId} {x kx vx : Operand} (ho : o.op = .mapUpdate t x kx vx) (he : EOk K ρ e act) (hr : Reps P K ρ H w) (h : (dop0 P o.op e H.get id).get = some eff) : DoOk P K ρ H w id eff ((execOp act o).run P w) := by
  rw [ho] at h
  simp only [dop0, doMapUpdate] at h
  obtain ⟨m, hx, h9⟩ := opt_ne h
  clear h; have h := h9; clear h9
  obtain ⟨j, hj, h9⟩ := opt_ne h
  clear h; have h := h9; clear h9
  obtain ⟨v, hv, h9⟩ := opt_ne h
  clear h; have h := h9; clear h9
  obtain ⟨h1, h2⟩ := he x m hx
  obtain ⟨j1, j2⟩ := he kx j hj
  obtain ⟨v1, v2⟩ := he vx v hv
  split at h
  case h_2 => simp at h
  rename_i key el r k n hu
  split at h
  case h_2 => simp at h
  rename_i k' bt es hk hg
  obtain ⟨hc, h9⟩ := cond_ne h
  have hc' : k = k' := by simpa using hc
  subst hc'
  obtain ⟨q, hq, h7⟩ := leaf_ne h9
  clear h h9
  have hkey := intKey_eq hk
  obtain ⟨ex, b1, b2, b0⟩ := hr.row r _ hg (hr.mapRow r _ hg rfl)
  obtain ⟨k1, k2⟩ := hr.known r _ hg
  have hlen : ex.length = es.length + 1 := b2
  simp only [obj] at b1
  have get : (getObj (ρ.blk r)).run P w = .ok (.map ⟨entries ρ es ex.tail⟩ (bornOf ex)) w := by
    simp [getObj, Sem.run, b1]
  have set_ : ∀ es' c, (setObj (ρ.blk r) (.map es' c)).run P w = .ok () { w with heap := w.heap.setIfInBounds (ρ.blk r) (.map es' c) } := by
    intro es' c
    simp [setObj, Sem.run, b1]
  obtain ⟨f1, f2⟩ := findI_ok (ρ := ρ) ex.tail hq
  have old : ∀ es', (∀ p ∈ es', p = (Value.int k n, v) ∨ p ∈ es) → scL K (Cells.list (.map es')) := by
    intro es' hes'
    rw [scL_iff]
    intro u hu
    simp only [Cells.list, flatM, List.mem_flatMap] at hu
    obtain ⟨p, hp, hu⟩ := hu
    rcases hes' p hp with rfl | hp
    · simp at hu
      rcases hu with rfl | rfl
      · simp [sc]
      · exact v2
    · rw [scL_iff] at k2
      exact k2 u (by simp only [Cells.list, flatM, List.mem_flatMap]; exact ⟨p, hp, hu⟩)
  cases q with
  | some p =>
    obtain ⟨i, pv⟩ := p
    simp at h7
    subst h7
    obtain ⟨jj, e1, e2⟩ := f2 _ rfl
    simp only [Nat.zero_add] at e1
    subst e1
    refine ⟨ρ, _, .skip, ?_, .inr ⟨rfl, rfl⟩, by simp [Eff.v, undef, sc, scA, scL], _, ex, hg, hr.mapRow r _ hg rfl, ?_, old _ (fun p hp => setE_mem _ _ _ hp), rfl, rfl⟩
    · have hki : ((entries ρ es ex.tail)[i]?).map (·.key) = some (.int k n) := by
        have : ∀ (es : List (Value × Value)) (ex : List Value) (i : Nat), ((entries ρ es ex)[i]?).map (·.key) = (es[i]?).map fun p => conc ρ p.1 := by
          intro es
          induction es with
          | nil => intro ex i; rfl
          | cons p es ih =>
            intro ex i
            cases i with
            | zero => rfl
            | succ i => simpa [entries] using ih ex.tail i
        rw [this, e2]
        simp [conc]
      have hstay : (Instr.keyThatStays ((((⟨entries ρ es ex.tail⟩ : Array MapEntry)[i]?).map (·.key)).getD (.int k n)) (.int k n)).run P w = .ok (.int k n) w := by
        have : (((⟨entries ρ es ex.tail⟩ : Array MapEntry)[i]?).map (·.key)).getD (.int k n) = .int k n := by
          rw [show ((⟨entries ρ es ex.tail⟩ : Array MapEntry)[i]?) = (entries ρ es ex.tail)[i]? by simp, hki]
          rfl
        rw [this]
        simp [Instr.keyThatStays, Instr.sameBits]
      simp only [execOp, ho, h1, j1, v1, conc, Instr.mapUpdate, Sem.run_bind, run_underlying hu, Result.andThen_ok, get, run_checkKey hkey, Instr.findKey, run_underlying hkey, f1, Option.map_some, Sem.run_pure, hstay, set_]
      simp only [obj]
      congr 4
      rw [setE_entries ex]
      apply Array.ext'
      simp [conc]
    · simp [fits, setE_length, hlen]
  | none =>
    simp at h7
    subst h7
    refine ⟨ρ, _, .skip, ?_, .inr ⟨rfl, rfl⟩, by simp [Eff.v, undef, sc, scA, scL], _, .int .i64 (bornOf ex + 1 : Nat) :: (ex.tail ++ [.int .i64 (bornOf ex : Nat)]), hg, hr.mapRow r _ hg rfl, ?_, old _ (fun p hp => by simp at hp; exact hp.symm), rfl, rfl⟩
    · simp only [execOp, ho, h1, j1, v1, conc, Instr.mapUpdate, Sem.run_bind, run_underlying hu, Result.andThen_ok, get, run_checkKey hkey, Instr.findKey, run_underlying hkey, f1, Option.map_none, Sem.run_pure, set_]
      simp only [obj, List.tail_cons]
      rw [entries_push (by simp [hlen])]
      simp [bornOf, conc]
    · simp [fits, hlen]
theorem packC_list (el : TypeId) (l : List Value) : (packC P el l).list = l := by
  unfold packC
  split
  · split
    · rename_i ws h; exact (toInts_ok h).symm
    · rfl
  · split
    · rename_i rs h; exact (toRecs_ok h).symm
    · rfl
  · rfl
theorem packC_map (el : TypeId) (l : List Value) : isMap (packC P el l) = false := by
  unfold packC
  split
  · split <;> rfl
  · split <;> rfl
  · rfl
theorem ok_buildSlice {t : TypeId} {len : Nat} {parts : Array (Nat × Operand)} (ho : o.op = .buildSlice t len parts) (he : EOk K ρ e act) (hid : ¬ K id) (h : (dop0 P o.op e H.get id).get = some eff) : DoOk P K ρ H w id eff ((execOp act o).run P w) := by
  rw [ho] at h
  simp only [dop0, doBuildSlice, get_ofOpt] at h
  generalize hm : mapO _ parts.toList = m at h
  cases m with
  | none => simp at h
  | some ps =>
    simp only [Option.bind_some] at h
    obtain ⟨p1, p2⟩ := parts_ok he hm
    split at h
    · rename_i el hu
      cases hi : P.info? el with
      | none => simp [hi] at h
      | some i =>
        cases hz : i.zero with
        | none => simp [hi, hz] at h
        | some z =>
          simp only [hi, hz] at h
          rw [Bool.cond_eq_ite] at h
          split at h
          case isFalse => simp at h
          case isTrue hp =>
          simp only [Bool.and_eq_true] at hp
          obtain ⟨hp, hle⟩ := hp
          have hle : len * i.size ≤ 100000 := Nat.le_of_ble_eq_true hle
          generalize hzz : (bif len * i.size == 0 then (#[] : Array Value) else z.cells) = zz at h
          have hzc : concA ρ zz = zz ∧ scA K zz := by
            subst hzz
            rw [Bool.cond_eq_ite]
            split
            · exact ⟨by simp [concA_eq], by simp [scA, scL]⟩
            · refine ⟨by rw [← cells_concA, conc_plain ρ z hp], ?_⟩
              have := cells_sc (sc_plain K z hp)
              rw [scL_iff] at this
              rw [scA_iff]
              exact this
          have base : concA ρ ((Array.range (len * i.size)).map (zz[· % zz.size]!)) = (Array.range (len * i.size)).map (zz[· % zz.size]!) ∧ scA K ((Array.range (len * i.size)).map (zz[· % zz.size]!)) := by
            have key : ∀ j, j < len * i.size → conc ρ (zz[j % zz.size]!) = zz[j % zz.size]! ∧ sc K (zz[j % zz.size]!) := by
              intro j hj
              have hne : (len * i.size == 0) = false := by simp; omega
              have hzz' : zz = z.cells := by rw [← hzz, hne]; rfl
              by_cases hs : zz.size = 0
              · have : zz[j % zz.size]! = (default : Value) := by simp [hs]
                rw [this]
                exact ⟨by simp [default, instInhabitedValue, instInhabitedValue.default, conc], by simp [default, instInhabitedValue, instInhabitedValue.default, sc]⟩
              · have hlt : j % zz.size < zz.size := Nat.mod_lt _ (by omega)
                have hg : zz[j % zz.size]! = zz[j % zz.size] := by simp [hlt]
                rw [hg]
                refine ⟨?_, (scA_iff.1 hzc.2) _ (by simp)⟩
                have := congrArg (fun a => a[j % zz.size]?) hzc.1
                simp [concA_eq, hlt] at this
                exact this
            refine ⟨?_, ?_⟩
            · rw [concA_eq, Array.map_map]
              apply Array.map_congr_left
              intro j hj
              simp at hj
              exact (key j hj).1
            · rw [scA_iff]
              intro v hv
              simp at hv
              obtain ⟨j, hj, rfl⟩ := hv
              exact (key j hj).2
          cases hf : Instr.fill (fun j => some (j * i.size, i.size)) ((Array.range (len * i.size)).map (zz[· % zz.size]!)) ps with
          | none => simp only [hf] at h; simp at h
          | some cs =>
            simp only [hf] at h
            obtain ⟨hem, h9⟩ := cond_ne h
            simp at h9
            subst h9
            have pl := packC_list (P := P) el cs.toList
            have pm := packC_map (P := P) el cs.toList
            have hfc : Instr.fill (fun j => some (j * i.size, i.size)) ((Array.range (len * i.size)).map (zz[· % zz.size]!)) (ps.map fun p => (p.1, conc ρ p.2)) = some (concA ρ cs) := by
              have := fill_conc (ρ := ρ) (fun j => some (j * i.size, i.size)) ps ((Array.range (len * i.size)).map (zz[· % zz.size]!))
              rw [base.1, hf] at this
              exact this
            refine ⟨ρ.put id w.heap.size 0, _, _, ?_, .inl rfl, ?_, 0, w.drawn, [], ?_, ?_, rfl, rfl⟩
            · have e1 : ¬ len * i.size > 2 ^ 24 := by omega
              have run : (Instr.buildSlice t len (parts.map fun (i, x) => (i, act x))).run P w = .ok (.slice (some ⟨w.heap.size, 0, none⟩) len len) { w with heap := w.heap.push (.cells (concA ρ cs) el) } := by
                simp only [Instr.buildSlice, Sem.run_bind, run_underlying hu, Result.andThen_ok, sizeOf, typeInfo, run_program, hi, Sem.run_pure, if_neg e1, p1]
                by_cases h0 : len * i.size = 0
                · have hzz' : zz = #[] := by rw [← hzz, h0]; rfl
                  simp only [if_pos h0, Sem.run_bind, Sem.run_pure, Result.andThen_ok]
                  rw [hzz'] at hfc
                  rw [hfc]
                  simp [newRow]
                · have hzz' : zz = z.cells := by
                    rw [← hzz, Bool.cond_eq_ite, if_neg (by simpa using h0)]
                  simp only [if_neg h0, Sem.run_bind, zeroValue, typeInfo, run_program, hi, hz, Result.andThen_ok, Sem.run_pure]
                  rw [hzz'] at hfc
                  rw [hfc]
                  simp [newRow]
              have hc := conc_start (ρ' := ρ.put id w.heap.size 0) (id := id) (l := len) (n := len) (by simp [Val.put]) (exact_empty hem)
              simp only [execOp, ho, Sem.run_bind, run, Result.andThen_ok, Sem.run_pure]
              rw [obj_cells (b := ⟨el, packC P el cs.toList⟩) pm]
              simp only [Eff.v, hc]
              obtain ⟨l⟩ := cs
              simp only at pl
              simp [Val.put, pl, concA]
            · simp [Eff.v, sc, also]
            · rw [fits_cells (b := ⟨el, packC P el cs.toList⟩) pm]; simp
            · have := fill_sc _ ps _ _ p2 base.2 hf
              rw [scA_iff] at this
              rw [pl, scL_iff]
              exact this
    · simp at h

end
end Go.Proofs.YtifojacfedjedaaGreat.Ev
end

section
namespace Go.Proofs.YtifojacfedjedaaGreat.Ev
set_option linter.unusedVariables false
set_option linter.unusedSimpArgs false
section
variable {P : Program} {K : Nat → Prop} {ρ : Val} {H : Heap} {w : World} {id : Nat} {e : Operand → Option Value} {act : Operand → Value} {o : Oper} {eff : Eff}

theorem oneCells_iff {l : List Value} : oneCells l = true ↔ ∀ v ∈ l, v.oneCell' = true := by
  induction l with
  | nil => simp [oneCells]
  | cons v l ih => simp [oneCells, ih]
theorem one_conc (v : Value) : (conc ρ v).oneCell' = v.oneCell' := by
  cases v with
  | pointer a => cases a <;> simp [conc, Value.oneCell']
  | slice a l c => cases a <;> simp [conc, Value.oneCell']
  | map a => cases a <;> simp [conc, Value.oneCell']
  | _ => simp [conc, Value.oneCell']
theorem setCell_row {b off : Nat} {cs : List Value} {t : TypeId} {v : Value} (hb : w.heap[b]? = some (.cells ⟨cs⟩ t (0, 0))) :
    w.setCell ⟨b, off, none⟩ v = { w with heap := w.heap.setIfInBounds b (.cells ⟨cs.set off v⟩ t (0, 0)) } := by
  unfold World.setCell
  congr 1
  apply Array.ext_getElem?
  intro k
  have hlt : b < w.heap.size := (Array.getElem?_eq_some_iff.1 hb).1
  simp only [Array.getElem?_modify, Array.getElem?_setIfInBounds]
  by_cases hk : b = k
  · subst hk
    have hv : w.heap[b] = .cells ⟨cs⟩ t (0, 0) := (Array.getElem?_eq_some_iff.1 hb).2
    simp [hlt, hv]
  · simp [hk]
theorem storeCells_ok {b : Nat} {t : TypeId} {off : Nat} : ∀ (vs : List Value) (i : Nat) (cs : List Value) (w : World), w.heap[b]? = some (.cells ⟨cs⟩ t (0, 0)) → off + i + vs.length ≤ cs.length → (∀ v ∈ vs, v.oneCell' = true) →
    (storeCells ⟨b, off, none⟩ vs i).run P w = .ok () { w with heap := w.heap.setIfInBounds b (.cells ⟨cs.take (off + i) ++ vs ++ cs.drop (off + i + vs.length)⟩ t (0, 0)) }
  | [], i, cs, w, hb, hl, _ => by
    simp only [storeCells, List.append_nil, List.length_nil, Nat.add_zero, List.take_append_drop]
    show Result.ok () w = _
    have hlt : b < w.heap.size := (Array.getElem?_eq_some_iff.1 hb).1
    have hv : w.heap[b] = .cells ⟨cs⟩ t (0, 0) := (Array.getElem?_eq_some_iff.1 hb).2
    have key : w.heap.setIfInBounds b (.cells ⟨cs⟩ t (0, 0)) = w.heap := by
      apply Array.ext_getElem?
      intro k
      simp only [Array.getElem?_setIfInBounds]
      by_cases hk : b = k
      · subst hk
        simp [hlt, hv]
      · simp [hk]
    rw [key]
  | v :: vs, i, cs, w, hb, hl, h1 => by
    simp only [List.length_cons] at hl
    have hi : off + i < cs.length := by omega
    have hcell : w.cell? ⟨b, off + i, none⟩ = some cs[off + i] := by simp [World.cell?, hb, hi]
    have hfro : w.frozen? ⟨b, off + i, none⟩ = false := by simp [World.frozen?, hb]
    have hst : (store ((⟨b, off, none⟩ : Addr).add i) v).run P w = .ok () (w.setCell ⟨b, off + i, none⟩ v) := by
      rw [add_at, run_store P w _ v _ (h1 v (by simp)), hcell]
      simp [hfro]
    have hlt : b < w.heap.size := (Array.getElem?_eq_some_iff.1 hb).1
    have hb' : (w.setCell ⟨b, off + i, none⟩ v).heap[b]? = some (.cells ⟨cs.set (off + i) v⟩ t (0, 0)) := by
      rw [setCell_row hb]
      simp [hlt]
    have ih := storeCells_ok (off := off) vs (i + 1) (cs.set (off + i) v) (w.setCell ⟨b, off + i, none⟩ v) hb' (by simp; omega) (fun u hu => h1 u (by simp [hu]))
    simp only [storeCells, Sem.run_bind, hst, Result.andThen_ok, ih]
    rw [setCell_row hb]
    simp only [Array.setIfInBounds_setIfInBounds]
    have key : (cs.set (off + i) v).take (off + (i + 1)) ++ vs ++ (cs.set (off + i) v).drop (off + (i + 1) + vs.length) = cs.take (off + i) ++ (v :: vs) ++ cs.drop (off + i + (v :: vs).length) := by
      rw [List.take_set, List.drop_set_of_lt (by omega)]
      rw [show off + (i + 1) = off + i + 1 by omega, List.take_add_one, List.getElem?_eq_getElem hi, Option.toList_some]
      rw [List.set_append_right _ _ (by simp; omega)]
      rw [show off + i - (cs.take (off + i)).length = 0 by simp; omega]
      simp only [List.set_cons_zero, List.append_assoc, List.cons_append, List.nil_append, List.length_cons]
      rw [show off + i + 1 + vs.length = off + i + (vs.length + 1) by omega]
    rw [key]

theorem learn_get {h : List Bool} {o : Nat} : ∀ (n j : Nat), (learn h o n).getD j true = (h.getD j true || (decide (o ≤ j) && decide (j < o + n)))
  | 0, j => by
    have : ¬ (o ≤ j ∧ j < o + 0) := by omega
    simp only [learn]
    cases h.getD j true <;> simp
  | n + 1, j => by
    simp only [learn]
    rw [List.getD_eq_getElem?_getD, List.getElem?_set]
    have ih := learn_get (h := h) (o := o) n j
    rw [List.getD_eq_getElem?_getD] at ih
    by_cases e : o + n = j
    · subst e
      rw [if_pos rfl]
      by_cases hl : o + n < (learn h o n).length
      · rw [if_pos hl]; simp
      · rw [if_neg hl]; simp
    · rw [if_neg e, ih]
      congr 1
      by_cases q : o ≤ j
      · have q1 : decide (j < o + n) = decide (j < o + (n + 1)) := decide_eq_decide.2 (by omega)
        rw [q1]
      · rw [decide_eq_false q]; simp
theorem over_getD (ρ : Val) : ∀ (l : List Value) (h : List Bool) (ex : List Value) (j : Nat), (over ρ l h ex)[j]? = if j < l.length ∧ j < ex.length ∧ h.getD j true = true then (l[j]?).map (conc ρ) else ex[j]?
  | [], h, ex, j => by simp [over]
  | u :: l, h, [], j => by simp [over]
  | u :: l, h, e :: ex, 0 => by
    have : h.getD 0 true = h.headD true := by cases h <;> rfl
    simp only [over, List.getElem?_cons_zero, List.length_cons, Nat.zero_lt_succ, true_and, Option.map_some, this]
    cases h.headD true <;> simp
  | u :: l, h, e :: ex, j + 1 => by
    have : h.getD (j + 1) true = h.tail.getD j true := by cases h <;> simp
    simp only [over, List.getElem?_cons_succ, List.length_cons, Nat.add_lt_add_iff_right, this]
    exact over_getD ρ l h.tail ex j
theorem over_put (ρ : Val) (l : List Value) (h : List Bool) (ex vs : List Value) (o : Nat) (ho : o + vs.length ≤ l.length) (hl : l.length ≤ ex.length) :
    over ρ (l.take o ++ vs ++ l.drop (o + vs.length)) (learn h o vs.length) ex = (over ρ l h ex).take o ++ concL ρ vs ++ (over ρ l h ex).drop (o + vs.length) := by
  apply List.ext_getElem?
  intro j
  rw [over_getD]
  have e1 : (l.take o ++ vs ++ l.drop (o + vs.length)).length = l.length := by simp; omega
  rw [e1, learn_get]
  have e2 : ((over ρ l h ex).take o ++ concL ρ vs).length = o + vs.length := by simp; omega
  have e3 : (l.take o ++ vs).length = o + vs.length := by simp; omega
  by_cases j1 : j < o
  · rw [List.append_assoc, List.getElem?_append_left (by simp; omega), List.getElem?_take, if_pos j1]
    rw [List.append_assoc, List.getElem?_append_left (by simp; omega), List.getElem?_take, if_pos j1, over_getD]
    have : decide (o ≤ j) = false := decide_eq_false (by omega)
    rw [this]
    simp
  · by_cases j2 : j < o + vs.length
    · rw [List.getElem?_append_left (by omega), List.getElem?_append_right (by simp; omega)]
      rw [List.getElem?_append_left (by omega), List.getElem?_append_right (by simp; omega)]
      have t1 : ((over ρ l h ex).take o).length = o := by simp; omega
      have t2 : (l.take o).length = o := by simp; omega
      rw [t1, t2, concL_eq, List.getElem?_map]
      have : decide (o ≤ j) = true := decide_eq_true (by omega)
      have j2' : decide (j < o + vs.length) = true := decide_eq_true j2
      rw [if_pos ⟨by omega, by omega, by rw [this, j2']; simp⟩]
    · rw [List.getElem?_append_right (by omega), List.getElem?_append_right (by omega), e2, e3]
      rw [List.getElem?_drop, List.getElem?_drop, over_getD]
      have s1 : o + vs.length + (j - (o + vs.length)) = j := by omega
      have : decide (j < o + vs.length) = false := decide_eq_false j2
      rw [s1, this]
      simp
theorem write_ok {b : Blk} {i off k : Nat} {sp : Option Nat} {vs : List Value} {y : Cells} {ex : List Value} (hf : fits P k b ex) (h0 : ρ.start i = 0) (hb : w.heap[ρ.blk i]? = some (obj ρ b ex)) (hy : (writeC b.c off sp vs).get = some y) :
    (storeCells (caddr ρ ⟨i, off, sp⟩) (concL ρ vs)).run P w = .ok () { w with heap := w.heap.setIfInBounds (ρ.blk i) (obj ρ ⟨b.t, y⟩ ex) } := by
  obtain ⟨ym, y1, y2, y3⟩ := writeC_ok hy
  rcases ym with ⟨ym, ym2⟩ | ⟨l, m, hl, hy'⟩
  case inr =>
    have hlen : l.length ≤ ex.length := by simp only [fits, hl] at hf; omega
    simp only [obj, hl] at hb
    rw [hl] at y1 y2
    rw [show (Cells.part l m).list = l from rfl] at y1 y2
    rw [caddr_eq, h0, Nat.zero_add]
    have run := storeCells_ok (P := P) (off := cellOff off sp) (concL ρ vs) 0 (over ρ l m ex) w hb (by simp; omega) (fun v hv => by
      simp only [concL_eq, List.mem_map] at hv
      obtain ⟨v', hv', rfl⟩ := hv
      rw [one_conc]
      exact y3 v' hv')
    rw [run, hy']
    simp only [obj]
    congr 4
    congr 1
    rw [y2]
    simp only [Nat.add_zero, concL_length]
    exact (over_put ρ l m ex vs (cellOff off sp) y1 hlen).symm
  rw [obj_cells ym] at hb
  rw [caddr_eq, h0, Nat.zero_add]
  have run := storeCells_ok (P := P) (off := cellOff off sp) (concL ρ vs) 0 (concL ρ b.c.list ++ ex) w hb (by simp; omega) (fun v hv => by
    simp only [concL_eq, List.mem_map] at hv
    obtain ⟨v', hv', rfl⟩ := hv
    rw [one_conc]
    exact y3 v' hv')
  rw [run, obj_cells (b := ⟨b.t, y⟩) ym2]
  simp only [y2]
  congr 4
  congr 1
  simp only [concL_eq, List.map_append, List.map_take, List.map_drop, List.length_map, Nat.add_zero]
  rw [List.take_append_of_le_length (by simp; omega), List.drop_append_of_le_length (by simp; omega)]
  simp
theorem write_sc {b : Blk} {off : Nat} {sp : Option Nat} {vs : List Value} {y : Cells} (hsc : scL K b.c.list) (hv : scL K vs) (hy : (writeC b.c off sp vs).get = some y) : scL K y.list := by
  obtain ⟨_, _, y2, _⟩ := writeC_ok hy
  rw [y2]
  rw [scL_iff] at hsc hv ⊢
  intro z hz
  simp only [List.mem_append] at hz
  rcases hz with (hz | hz) | hz
  · exact hsc z (List.mem_of_mem_take hz)
  · exact hv z hz
  · exact hsc z (List.mem_of_mem_drop hz)
theorem write_fits {b : Blk} {off k : Nat} {sp : Option Nat} {vs : List Value} {y : Cells} {ex : List Value} (hf : fits P k b ex) (hy : (writeC b.c off sp vs).get = some y) : fits P k ⟨b.t, y⟩ ex := by
  obtain ⟨ym, y1, y2, _⟩ := writeC_ok hy
  rcases ym with ⟨ym, ym2⟩ | ⟨l, m, hl, hy'⟩
  case inr =>
    have hlen : y.list.length = l.length := by
      rw [y2, hl]
      simp only [hl, Cells.list] at y1
      simp [Cells.list]
      omega
    rw [hy']
    simp only [fits, hl] at hf ⊢
    rw [hlen]
    exact hf
  rw [fits_cells ym2]
  rw [fits_cells ym] at hf
  exact hf
theorem ok_store {t : TypeId} {x y : Operand} (ho : o.op = .store t x y) (he : EOk K ρ e act) (hr : Reps P K ρ H w) (hwn : effWin eff = false) (h : (dop0 P o.op e H.get id).get = some eff) : DoOk P K ρ H w id eff ((execOp act o).run P w) := by
  rw [ho] at h
  simp only [dop0, doStore, get_ofOpt] at h
  cases hx : e x with
  | none => simp [hx] at h
  | some v =>
  cases hy : e y with
  | none => simp [hx, hy] at h
  | some u =>
    simp only [hx, hy, Option.bind_some] at h
    obtain ⟨h1, h2⟩ := he x v hx
    obtain ⟨u1, u2⟩ := he y u hy
    split at h
    · rename_i i off sp
      simp only [get_ofOpt] at h
      cases hg : H.get i with
      | none => simp [hg] at h
      | some b =>
        simp only [hg, Option.bind_some] at h
        obtain ⟨hk, hsc⟩ := hr.known i b hg
        cases hi : P.info? t with
        | none => simp [hi] at h
        | some ti =>
          simp only [hi] at h
          obtain ⟨hsz, h⟩ := cond_ne h
          have hsz : u.cells.size = ti.size := by simpa using hsz
          obtain ⟨q, hq, h⟩ := leaf_ne h
          simp at h
          subst h
          have husz : (conc ρ u).cells.size = ti.size := by rw [cells_concA]; simp [hsz]
          have hw : isWin b = false := hwn
          obtain ⟨ex, hb, hex, h00⟩ := hr.row i b hg hw
          have run := write_ok (P := P) hex h00 hb hq
          refine ⟨ρ, _, .skip, ?_, .inr ⟨rfl, rfl⟩, by simp [Eff.v, undef, sc, scA, scL], b, ex, hg, hw, write_fits hex hq, write_sc hsc (cells_sc u2) hq, rfl, rfl⟩
          simp only [execOp, ho, h1, u1, conc, Instr.storeAt, Instr.sureAddr, storeVar, Sem.run_bind, Sem.run_pure, Result.andThen_ok, sizeOf, typeInfo, run_program, hi, Sem.run_ite, husz, ne_eq, not_true_eq_false, if_false, cells_conc, run]
    · simp at h

theorem made_ints (k : IntKind) (n : Nat) : madeCells #[.int k 0] n = ((List.replicate n (0 : Int)).map (Value.int k)).toArray := by
  apply Array.ext_getElem?
  intro j
  simp only [madeCells]
  by_cases hj : j < n
  · simp [hj, Nat.mod_one]
  · simp [hj]
theorem zeroInt_eq {k : IntKind} {z : Value} (h : zeroInt k (some z) = true) : z = .int k 0 := by
  unfold zeroInt at h
  split at h
  · rename_i k' z0 heq
    cases heq
    simp at h
    rw [h.1, h.2]
  · cases h
/-- So many zero values: as many as are asked for. -/
theorem zerosC_ok {c : Cells} {z : Value} {n : Int} {y : Cells} (h : (zerosC c z n).get = some y) : isMap y = false ∧ y.list = (List.replicate n.toNat z.cells.toList).flatten := by
  unfold zerosC at h
  split at h
  · rename_i k ws
    obtain ⟨hz, h⟩ := cond_ne h
    simp at h
    subst h
    rw [zeroInt_eq hz]
    refine ⟨rfl, ?_⟩
    simp only [Cells.list, Value.cells, List.map_replicate]
    generalize n.toNat = q
    induction q with
    | zero => rfl
    | succ q ih => rw [List.replicate_succ, List.replicate_succ, List.flatten_cons, ← ih]; rfl
  · rename_i fs rs
    split at h
    · rename_i r hr
      simp at h
      subst h
      have := toRec_ok hr
      rw [List.append_nil] at this
      refine ⟨rfl, ?_⟩
      rw [this]
      simp only [Cells.list]
      generalize n.toNat = q
      induction q with
      | zero => rfl
      | succ q ih => simp [List.replicate_succ, ih]
    · simp at h
  · obtain ⟨hz, h⟩ := cond_ne h
    simp at h
    subst h
    exact ⟨rfl, rfl⟩
theorem plainL_append (a b : List Value) : plainL (a ++ b) = (plainL a && plainL b) := by
  induction a with
  | nil => simp [plainL]
  | cons v a ih => simp [plainL, ih, Bool.and_assoc]
theorem cells_plain {z : Value} (h : plain z = true) : plainL z.cells.toList = true := by
  cases z with
  | agg cs => obtain ⟨l⟩ := cs; simpa [plain, plainA, Value.cells] using h
  | _ => simpa [Value.cells, plainL] using h
theorem rep_get {α : Type} (l : List α) : ∀ (n j : Nat), j < n * l.length → (List.replicate n l).flatten[j]? = l[j % l.length]?
  | 0, j, h => by omega
  | n + 1, j, h => by
    rw [List.replicate_succ, List.flatten_cons]
    rw [Nat.add_mul, Nat.one_mul] at h
    by_cases hj : j < l.length
    · rw [List.getElem?_append_left hj, Nat.mod_eq_of_lt hj]
    · rw [List.getElem?_append_right (by omega), rep_get l n _ (by omega), ← Nat.mod_eq_sub_mod (by omega)]
theorem rep_len {α : Type} (l : List α) (n : Nat) : (List.replicate n l).flatten.length = n * l.length := by simp
theorem made_flat (cs : Array Value) (n : Nat) : (madeCells cs (n * cs.size)).toList = (List.replicate n cs.toList).flatten := by
  apply List.ext_getElem?
  intro j
  by_cases hj : j < n * cs.size
  · rw [rep_get cs.toList n j (by simpa using hj)]
    have hpos : 0 < cs.size := by
      rcases Nat.eq_zero_or_pos cs.size with h | h
      · rw [h] at hj; omega
      · exact h
    have hm : j % cs.size < cs.size := Nat.mod_lt _ hpos
    rw [Array.getElem?_toList, Array.getElem?_eq_getElem (by rw [size_madeCells]; exact hj)]
    simp [madeCells, getElem!_pos, hm]
  · rw [List.getElem?_eq_none (by simp [size_madeCells]; omega), List.getElem?_eq_none (by rw [rep_len]; simp; omega)]
theorem flat_plain {z : Value} (h : plain z = true) (n : Nat) : plainL (List.replicate n z.cells.toList).flatten = true := by
  induction n with
  | zero => rfl
  | succ n ih => rw [List.replicate_succ, List.flatten_cons, plainL_append]; simp [ih, cells_plain h]
theorem ok_makeSlice {t : TypeId} {x y : Operand} (ho : o.op = .makeSlice t x y) (he : EOk K ρ e act) (hid : ¬ K id) (h : (dop0 P o.op e H.get id).get = some eff) : DoOk P K ρ H w id eff ((execOp act o).run P w) := by
  rw [ho] at h
  simp only [dop0, doMakeSlice, get_ofOpt] at h
  cases hx : e x with
  | none => simp [hx] at h
  | some v =>
  cases hy : e y with
  | none => simp [hx, hy] at h
  | some u =>
    simp only [hx, hy, Option.bind_some] at h
    obtain ⟨h1, h2⟩ := he x v hx
    obtain ⟨u1, u2⟩ := he y u hy
    split at h
    · rename_i el kl n km m hu
      split at h
      · rename_i ti hi
        split at h
        · rename_i z hz
          obtain ⟨hzz, h⟩ := cond_ne h
          simp only [Bool.and_eq_true, beq_iff_eq] at hzz
          obtain ⟨⟨c1, c2, c3, c4⟩, h⟩ := br_ne h
          obtain ⟨y', hy', h⟩ := leaf_ne h
          obtain ⟨hem, h⟩ := cond_ne h
          simp at h
          subst h
          obtain ⟨ym, yl⟩ := zerosC_ok hy'
          have run := run_make w t el ti z hu hi hz kl km n m c1 c2 (by omega) (by omega)
          have pl : scL K y'.list := by
            rw [yl, scL_iff]
            intro q hq
            simp only [List.mem_flatten, List.mem_replicate] at hq
            obtain ⟨l, ⟨_, rfl⟩, hq⟩ := hq
            exact scL_iff.1 (cells_sc (sc_plain K z hzz.2)) q hq
          refine ⟨ρ.put id w.heap.size 0, _, _, ?_, .inl rfl, ?_, 0, w.drawn, [], ?_, pl, rfl, rfl⟩
          · simp only [execOp, ho, h1, u1, conc, Sem.run_bind, run, Result.andThen_ok, Sem.run_pure]
            rw [obj_cells ym]
            have hc := conc_start (ρ' := ρ.put id w.heap.size 0) (id := id) (l := n.toNat) (n := m.toNat) (by simp [Val.put]) (exact_empty hem)
            simp only [Eff.v, hc]
            simp only [Val.put, if_true, Nat.add_zero, List.append_nil]
            congr 1
            simp only [World.alloc]
            congr 3
            rw [concL_plain _ _ (by rw [yl]; exact flat_plain hzz.2 _), yl, ← made_flat, hzz.1]
          · simp [Eff.v, sc, also]
          · rw [fits_cells ym]; simp
        · simp at h
      · simp at h
    · simp at h
theorem zero_flat (cs : Array Value) (n : Nat) : (Builtin.zeroCells cs n).toList = (List.replicate n cs.toList).flatten := made_flat cs n
theorem lay_ok {b : Blk} {i off : Nat} {sp : Option Nat} {x y : Cells} {ex : List Value} (h0 : ρ.start i = 0) (hb : w.heap[ρ.blk i]? = some (obj ρ b ex)) (hy : (layC b.c off sp x).get = some y) :
    (storeCells (caddr ρ ⟨i, off, sp⟩) (concL ρ x.list)).run P w = .ok () { w with heap := w.heap.setIfInBounds (ρ.blk i) (obj ρ ⟨b.t, y⟩ ex) } := by
  obtain ⟨ym, ym2, y1, y2, y3⟩ := layC_ok hy
  rw [obj_cells ym] at hb
  rw [caddr_eq, h0, Nat.zero_add]
  have run := storeCells_ok (P := P) (off := cellOff off sp) (concL ρ x.list) 0 (concL ρ b.c.list ++ ex) w hb (by simp; omega) (fun v hv => by
    simp only [concL_eq, List.mem_map] at hv
    obtain ⟨v', hv', rfl⟩ := hv
    rw [one_conc]
    exact y3 v' hv')
  rw [run, obj_cells (b := ⟨b.t, y⟩) ym2]
  simp only [y2]
  congr 4
  congr 1
  simp only [concL_eq, List.map_append, List.map_take, List.map_drop, List.length_map, Nat.add_zero]
  rw [List.take_append_of_le_length (by simp; omega), List.drop_append_of_le_length (by simp; omega)]
  simp
theorem ok_clear {args : Array Operand} {s : Value} {t : TypeId} (ho : o.op = .call { callee := .builtin .clear, args, argTypes := #[t] }) (hargs : args.map act = #[conc ρ s]) (hr : Reps P K ρ H w)
    (hs : sc K s) (hwn : effWin eff = false) (h : (doClear P H.get t s).get = some eff) : DoOk P K ρ H w id eff ((execOp act o).run P w) := by
  unfold doClear at h
  split at h
  · rename_i el i off sp n c hu
    split at h
    · rename_i ti hi
      split at h
      · rename_i z hz
        obtain ⟨hzz, h9⟩ := cond_ne h
        clear h
        simp only [Bool.and_eq_true, beq_iff_eq] at hzz
        rw [Tree.get_br] at h9
        by_cases hn : n = 0
        · subst hn
          simp at h9
          subst h9
          refine DoOk.ofVal (by simp [sc, scA, scL]) ?_
          simp [execOp, ho, resolve, invoke, Go.builtin, hargs, conc, Builtin.clear_, run_underlying hu, concA, concL]
        · rw [if_neg (by simpa using hn)] at h9
          obtain ⟨b, hb, h8⟩ := opt_ne h9
          obtain ⟨y, hy, h7⟩ := leaf_ne h8
          obtain ⟨q, hq, h6⟩ := leaf_ne h7
          clear h9 h8 h7
          simp at h6
          subst h6
          have hw : isWin b = false := hwn
          obtain ⟨ex, b1, b2, b0⟩ := hr.row i b hb hw
          obtain ⟨ym, yl⟩ := zerosC_ok hy
          have hp : plainL y.list = true := by rw [yl]; exact flat_plain hzz.2 _
          have run := lay_ok (P := P) b0 b1 hq
          rw [concL_plain _ _ hp, yl, Int.toNat_natCast, ← zero_flat] at run
          have zero : (zeroValue el).run P w = .ok z w := by simp [zeroValue, typeInfo, hi, hz]
          obtain ⟨q1, q2, q3, q4, q5⟩ := layC_ok hq
          refine ⟨ρ, _, _, ?_, .inl rfl, by simp [Eff.v, sc, scA, scL], b, ex, hb, hw, ?_, ?_, rfl, rfl⟩
          · have hne : (n == 0) = false := by simpa using hn
            have c : (Builtin.clear_ #[t] o.type #[conc ρ (.slice (some ⟨i, off, sp⟩) n c)]).run P w = .ok (.tuple #[]) { w with heap := w.heap.setIfInBounds (ρ.blk i) (obj ρ ⟨b.t, q⟩ ex) } := by
              obtain ⟨m, rfl⟩ : ∃ m, n = m + 1 := ⟨n - 1, by omega⟩
              simp only [Builtin.clear_, List.getElem?_toArray, List.getElem?_cons_zero, Sem.run_bind, run_underlying hu, Result.andThen_ok, conc, zero, run, Sem.run_pure]
            simp only [execOp, ho, resolve, Sem.run_bind, Sem.run_pure, Result.andThen_ok, invoke, Go.builtin, hargs, c]
            simp [Eff.v, conc, concA, concL]
          · rw [fits_cells q2]
            rw [fits_cells q1] at b2
            exact b2
          · have hk1 := scL_iff.1 (hr.known i b hb).2
            rw [scL_iff]
            intro u hu'
            simp only [q4, List.mem_append] at hu'
            rcases hu' with (hu' | hu') | hu'
            · exact hk1 u (List.mem_of_mem_take hu')
            · exact scL_iff.1 (scL_plain K _ hp) u hu'
            · exact hk1 u (List.mem_of_mem_drop hu')
      · simp at h
    · simp at h
  · rename_i el n c hu
    simp at h
    subst h
    refine DoOk.ofVal (by simp [sc, scA, scL]) ?_
    simp [execOp, ho, resolve, invoke, Go.builtin, hargs, conc, Builtin.clear_, run_underlying hu, concA, concL]
  · simp at h
theorem ok_builtin {b : Builtin} {args : Array Operand} {ts : Array TypeId} (ho : o.op = .call { callee := .builtin b, args, argTypes := ts }) (he : EOk K ρ e act) (hid : ¬ K id) (hr : Reps P K ρ H w) (hwn : effWin eff = false) (h : (dop0 P o.op e H.get id).get = some eff) : DoOk P K ρ H w id eff ((execOp act o).run P w) := by
  rw [ho] at h
  simp only [dop0, doBuiltin, get_ofOpt] at h
  cases hm : mapO e args.toList with
  | none => simp [hm] at h
  | some vs =>
    simp only [hm, Option.bind_some] at h
    obtain ⟨m1, m2⟩ := mapO_act he hm
    obtain ⟨la⟩ := args
    simp only at m1
    split at h
    · rename_i p n c t tl hts
      split at h
      · rename_i el hu
        simp at h
        subst h
        refine DoOk.ofVal (by simp [sc]) ?_
        obtain ⟨lt⟩ := ts
        simp at hts
        subst hts
        have hv : concL ρ [Value.slice p n c] = [conc ρ (.slice p n c)] := rfl
        rw [hv] at m1
        cases p <;> simp [execOp, ho, resolve, invoke, Go.builtin, m1, conc, Builtin.len_, run_underlying hu, goInt]
      · simp at h
    · rename_i s t tl hts
      split at h
      · rename_i hu
        simp at h
        subst h
        refine DoOk.ofVal (by simp [sc]) ?_
        obtain ⟨lt⟩ := ts
        simp at hts
        subst hts
        have hv : concL ρ [Value.string s] = [.string s] := by simp [concL, conc]
        rw [hv] at m1
        simp [execOp, ho, resolve, invoke, Go.builtin, m1, conc, Builtin.len_, run_underlying hu, goInt]
      · simp at h
    · rename_i k x k' y
      simp at h
      subst h
      refine DoOk.ofVal (by simp [sc]) ?_
      have hv : concL ρ [Value.int k x, .int k' y] = [.int k x, .int k' y] := by simp [concL, conc]
      rw [hv] at m1
      simp [execOp, ho, resolve, invoke, Go.builtin, m1, conc, Builtin.min_, Builtin.min2]
    · rename_i k x k' y
      simp at h
      subst h
      refine DoOk.ofVal (by simp [sc]) ?_
      have hv : concL ρ [Value.int k x, .int k' y] = [.int k x, .int k' y] := by simp [concL, conc]
      rw [hv] at m1
      simp [execOp, ho, resolve, invoke, Go.builtin, m1, conc, Builtin.max_, Builtin.max2]
    · rename_i d s t tl hts
      simp only [scL] at m2
      refine ok_copy ho ?_ hts hr m2.1 m2.2.1 hwn h
      simpa [concL] using m1
    · rename_i s t hts
      simp only [scL] at m2
      obtain ⟨lt⟩ := ts
      simp at hts
      subst hts
      refine ok_clear ho ?_ hr m2.1 hwn h
      simpa [concL] using m1
    · rename_i s x t t' hts
      obtain ⟨htt, hh⟩ := cond_ne h
      simp only [scL] at m2
      obtain ⟨lt⟩ := ts
      simp at hts
      subst hts
      refine ok_append htt ho ?_ hr hid m2.1 hwn hh
      simpa [concL] using m1
    · simp at h

/-- What an operation comes to over a heap of ours, it comes to in a world. -/
theorem dop_ok (he : EOk K ρ e act) (hid : ¬ K id) (hr : Reps P K ρ H w) (h9 : (dop P o.op e H.get id).get = some eff) : DoOk P K ρ H w id eff ((execOp act o).run P w) := by
  obtain ⟨h, hwn⟩ := dop_some h9
  have h0 := h
  unfold dop0 at h0
  split at h0
  · rename_i x ho; exact ok_move (.inl ho) he h
  · rename_i x ho; exact ok_move (.inr ho) he h
  · rename_i c a b ho; exact ok_pick ho he h
  · rename_i t ho; exact ok_alloc ho hid h
  · rename_i t x ho; exact ok_box ho he hid h
  · rename_i t ps ho; exact ok_build ho he h
  · rename_i t n ps ho; exact ok_buildSlice ho he hid h
  · rename_i t a ho; exact ok_load ho he hr h
  · rename_i t a x ho; exact ok_store ho he hr hwn h
  · rename_i x ho; exact ok_nil ho he h
  · rename_i op t x y yt ho; exact ok_bin ho he h
  · rename_i op t x ho; exact ok_un ho he h
  · rename_i s d x ho; exact ok_conv ho he h
  · rename_i f a b ho; exact ok_func ho he h
  · rename_i s x f ho; exact ok_fieldAddr ho he h
  · rename_i t x i ho; exact ok_indexAddr ho he h
  · rename_i t x f ho; exact ok_field ho he h
  · rename_i x i ho; exact ok_extract ho he h
  · rename_i t l c ho; exact ok_makeSlice ho he hid h
  · rename_i t x lo hi mx ho; exact ok_slice ho he h
  · rename_i t x i ho; exact ok_index ho he h
  · rename_i t x ho; exact ok_iface ho he h
  · rename_i x xt t ok ho; exact ok_assert ho he h
  · rename_i t r ho; exact ok_makeMap ho hid h
  · rename_i t x i ok ho; exact ok_lookup ho he hr h
  · rename_i t m k v ho; exact ok_mapUpdate ho he hr h
  · rename_i b args ts ho; exact ok_builtin ho he hid hr hwn h
  · simp at h0
end
end Go.Proofs.YtifojacfedjedaaGreat.Ev
end

section
namespace Go.Proofs.YtifojacfedjedaaGreat.Ev
set_option linter.unusedVariables false
set_option linter.unusedSimpArgs false

/-- Where a run stands: the slots, the heap, and the blocks that were changed. -/
structure St where
  T : TT
  H : TH
  L : List Nat
/-- What an operation did. -/
inductive Rc where
  | skip
  | dir (e : Eff) (ids : List Nat) (wr : Bool)
  | call (v : Value) (n0 n1 : Nat) (H : TH) (L : List Nat)
/-- What a call comes to. -/
abbrev Sum := List Value → TH → Tree (Value × TH × List Nat)

section
variable {β : Type}
def putK (T : TT) (dst : Option Tmp) (v : Value) (k : TT → Tree β) : Tree β :=
  match dst with
  | none => k T
  | some d => cond (Nat.blt d T.n) (k (T.set d (some v))) .bad

def hide (H : TH) : List Nat → TH
  | [] => H
  | i :: l => (hide H l).set i none
def unhide (H H' : TH) : List Nat → TH
  | [] => H'
  | i :: l => (unhide H H' l).set i (H.get i)

def apartL (a b : List Nat) : Bool := a.all fun x => !b.contains x
/-- Whether it is a call of a function. -/
def isCall : Op → Bool
  | .call { callee := .value _, .. } => true
  | .call { callee := .invoke _ _, .. } => true
  | _ => false
/-- A variable's value. -/
def varOf (P : Program) (g : Nat → Option Blk) (t : TypeId) (i off : Nat) (sp : Option Nat) : Option Value := match g i, isAggT P t, P.info? t with
  | some b, some true, some ti => match readC b.c off sp ti.size with
    | .leaf r => some (.agg ⟨r⟩)
    | _ => none
  | some b, some false, some _ => match readC b.c off sp 1 with
    | .leaf [v] => some v
    | _ => none
  | _, _, _ => none
/-- A method of a part, by the address of a struct: the part's address. -/
def viaPath (P : Program) (m : Method) (v : Value) : Option (FuncId × Value) := match m.func, m.path.toList, v with
  | some (f, true), [s], .pointer (some ⟨i, off, none⟩) => cond s.deref (match P.underlying s.struct with
    | some (.struct fields) => match fields[s.index]? with
      | some fl => match P.info? fl.type, P.underlying fl.type with
        | some inf, some (.struct _) => cond (inf.size == 0) none (some (f, .pointer (some ⟨i, off + fl.offset, none⟩)))
        | _, _ => none
      | none => none
    | _ => none) none
  | _, _, _ => none
/-- The method of a value that an interface holds. -/
def methodOf (P : Program) (g : Nat → Option Blk) (t : TypeId) (v : Value) (name : String) : Option (FuncId × Value) := match P.info? t with
  | some i => match i.methods.find? (·.name == name) with
    | some m => cond m.path.isEmpty (match m.func, P.underlying t with
      | some (f, true), some (.pointer _) => some (f, v)
      | some (f, false), some (.pointer el) => match v with
        | .pointer (some ⟨i, off, sp⟩) => match varOf P g el i off sp with
          | some u => some (f, u)
          | none => none
        | _ => none
      | some (f, false), some _ => some (f, v)
      | _, _ => none) (viaPath P m v)
    | none => none
  | none => none
/-- Which function is called, and with what. -/
def target (P : Program) (e : Operand → Option Value) (g : Nat → Option Blk) : Op → Option (FuncId × List Value)
  | .call { callee := .value f, args, .. } => match e f, mapO e args.toList with
    | some (.func (.func g) a b), some vs => some (g, a.toList ++ (vs ++ b.toList))
    | _, _ => none
  | .call { callee := .invoke r name, args, .. } => match e r, mapO e args.toList with
    | some (.iface t v), some vs => match methodOf P g t v name with
      | some (g, u) => some (g, u :: vs)
      | none => none
    | _, _ => none
  | _ => none

def runOp (P : Program) (call : FuncId → Sum) (base : Nat) (hid : List Nat) (i : Nat) (o : Oper) (s : St) (k : Rc → St → Tree β) : Tree β :=
  cond (isCall o.op)
    (ofOpt (target P (opnd s.T.get) (hide s.H hid).get o.op) fun g =>
      (call g.1 g.2 (hide s.H hid)).bind fun r =>
        cond (apartL hid r.2.2) (putK s.T o.dst r.1 fun T => k (.call r.1 s.H.n r.2.1.n r.2.1 r.2.2) ⟨T, unhide s.H r.2.1 hid, r.2.2 ++ s.L⟩) .bad)
    ((dop P o.op (opnd s.T.get) s.H.get (base + i)).bind fun eff => match eff with
    | .val v => putK s.T o.dst v fun T => k (.dir (.val v) (needs o.op (opnd s.T.get)) false) ⟨T, s.H, s.L⟩
    | .new b v => putK s.T o.dst v fun T => k (.dir (.new b v) (needs o.op (opnd s.T.get)) false) ⟨T, s.H.set (base + i) (some b), s.L⟩
    | .upd j b v => putK s.T o.dst v fun T => k (.dir (.upd j b v) (j :: needs o.op (opnd s.T.get)) true) ⟨T, s.H.set j (some b), j :: s.L⟩
    | .grow none b v => putK s.T o.dst v fun T => k (.dir (.grow none b v) (needs o.op (opnd s.T.get)) false) ⟨T, s.H.set (base + i) (some b), s.L⟩
    | .grow (some j) b v => putK s.T o.dst v fun T => k (.dir (.grow (some j) b v) (j :: needs o.op (opnd s.T.get)) true) ⟨T, (s.H.set j none).set (base + i) (some b), j :: s.L⟩)

/-- Whether an operation is done, by its guard. -/
def guardK (ops : Array Oper) (o : Oper) (s : St) (k : Bool → St → Tree β) : Tree β :=
  match o.guard with
  | none => k true s
  | some (j, want) => match (nth ops.toList j).bind (·.dst) with
    | none => k false s
    | some t => ofOpt (s.T.get t) fun v => match v with
      | .bool b => .br b (k want ⟨s.T.set t (some (.bool true)), s.H, s.L⟩) (k (!want) ⟨s.T.set t (some (.bool false)), s.H, s.L⟩)
      | _ => k false s

def evOps (P : Program) (call : FuncId → Sum) (ops : Array Oper) (base : Nat) (hid : Nat → List Nat) : List Oper → Nat → St → List Rc → (St → List Rc → Tree β) → Tree β
  | [], _, s, rs, k => k s rs
  | o :: l, i, s, rs, k => guardK ops o s fun w s =>
    cond w (runOp P call base (hid i) i o s fun r s => evOps P call ops base hid l (i + 1) s (r :: rs) k)
      (putK s.T o.dst undef fun T => evOps P call ops base hid l (i + 1) ⟨T, s.H, s.L⟩ (.skip :: rs) k)

/-- Whether the order of two operations is laid down. -/
def ordered (b : List Nat) (i j : Nat) : Bool := match nth b j with
  | some x => x.testBit i
  | none => false
def dstOf : Option Nat → List Nat
  | none => []
  | some d => [d]
/-- The slots at which an operation looks. -/
def reads (ops : Array Oper) (o : Oper) : List Nat :=
  (o.op.operands.toList.filterMap fun | .tmp t => some t | _ => none) ++ (match o.guard with
    | none => []
    | some (j, _) => match (nth ops.toList j).bind (·.dst) with
      | none => []
      | some t => [t])
def apartT (ops : Array Oper) (o u : Oper) : Bool :=
  apartL (dstOf o.dst) (reads ops u ++ dstOf u.dst) && apartL (dstOf u.dst) (reads ops o)
def apartR : Rc → Rc → Bool
  | .skip, _ => true
  | _, .skip => true
  | .dir _ a x, .dir _ b y => (!x && !y) || apartL a b
  | .dir _ a x, .call _ n0 _ _ L => !x && apartL a L && a.all fun i => Nat.blt i n0
  | .call _ n0 _ _ L, .dir _ a x => !x && apartL a L && a.all fun i => Nat.blt i n0
  | .call .., .call .. => false
def Rc.ids : Rc → List Nat
  | .dir _ a _ => a
  | _ => []
def okAfter (i : Nat) (o : Oper) : Bool := o.after.toList.all fun e => !Region.binds .any e || Nat.blt e.on i
/-- Operations whose order is not laid down do not touch each other. -/
def checkD (ops : Array Oper) (b : List Nat) (base : Nat) (rs : List Rc) : Bool :=
  (List.range ops.size).all fun j => (match nth ops.toList j with
    | some u => okAfter j u
    | none => false) && (List.range j).all fun i => ordered b i j || (match nth ops.toList i, nth ops.toList j with
    | some o, some u => apartT ops o u
    | _, _ => false) && (match nth rs i, nth rs j with
    | some r, some q => apartR r q && !(r.ids.contains (base + j)) && !(q.ids.contains (base + i))
    | _, _ => false)
def hids (ops : Array Oper) (b : List Nat) (base i : Nat) : List Nat :=
  (List.range ops.size).filterMap fun j => cond (i == j || cond (Nat.blt j i) (ordered b j i) (ordered b i j)) none (some (base + j))

def evRegion (P : Program) (call : FuncId → Sum) (ops : Array Oper) (draw : Bool) (s : St) (k : St → Tree β) : Tree β :=
  let base := s.H.n
  let s : St := ⟨s.T, ⟨s.H.tr, base + ops.size⟩, s.L⟩
  cond draw
    (let b := (Region.before ops).toList
     evOps P call ops base (hids ops b base) ops.toList 0 s [] fun s rs => cond (checkD ops b base rs.reverse) (k s) .bad)
    (evOps P call ops base (fun _ => []) ops.toList 0 s [] fun s _ => k s)

inductive Ex where
  | normal
  | exit (id : Nat)
  | ret
def setB (T : TT) (c : Operand) (b : Bool) : TT := match c with
  | .tmp t => T.set t (some (.bool b))
  | _ => T
/-- What a loop comes to: from a state on, with so many numbers ahead of the call. -/
abbrev LSum := Nat → St → Tree (Ex × St)
/-- The first region in a code: by it a loop is told. -/
def firstReg : Code → Option Nat
  | .region id _ _ => some id
  | .seq a b => match firstReg a with
    | some i => some i
    | none => firstReg b
  | .cond _ a b => match firstReg a with
    | some i => some i
    | none => firstReg b
  | .block _ c => firstReg c
  | .loop c => firstReg c
  | _ => none
def loopSum (lp : Nat → Option LSum) (c : Code) : Option LSum := match firstReg c with
  | some i => lp i
  | none => none
def evCode (P : Program) (call : FuncId → Sum) (lp : Nat → Option LSum) (n0 : Nat) : Nat → Code → St → (Ex → St → Tree β) → Tree β
  | 0, _, _, _ => .bad
  | n + 1, c, s, k => match c with
    | .skip => k .normal s
    | .label _ => k .normal s
    | .region _ ops draw => evRegion P call ops draw s (k .normal)
    | .seq a b => evCode P call lp n0 n a s fun e s => match e with
      | .normal => evCode P call lp n0 n b s k
      | .exit j => k (.exit j) s
      | .ret => k .ret s
    | .cond c a b => ofOpt (opnd s.T.get c) fun v => match v with
      | .bool t => .br t (evCode P call lp n0 n a ⟨setB s.T c true, s.H, s.L⟩ k) (evCode P call lp n0 n b ⟨setB s.T c false, s.H, s.L⟩ k)
      | _ => .bad
    | .block id c => evCode P call lp n0 n c s fun e s => match e with
      | .normal => k .normal s
      | .exit j => cond (j == id) (k .normal s) (k (.exit j) s)
      | .ret => k .ret s
    | .loop c => match loopSum lp c with
      | some ls => (ls n0 s).bind fun r => k r.1 r.2
      | none => evCode P call lp n0 n c s fun e s => match e with
        | .normal => evCode P call lp n0 n (.loop c) s k
        | .exit j => k (.exit j) s
        | .ret => k .ret s
    | .exit id => k (.exit id) s
    | .ret => k .ret s
    | _ => .bad
end

def initT : List Value → Nat → Nat → TT
  | [], _, n => ⟨.nil, n⟩
  | v :: l, i, n => (initT l (i + 1) n).set i (some v)

def result1 (P : Program) (s : St) : ResultVar → Tree Value
  | .tmp t => ofOpt (s.T.get t) fun v => .leaf v
  | .cell a t => (doLoad P (opnd s.T.get) s.H.get t (.tmp a)).bind fun e => match e with
    | .val v => .leaf v
    | _ => .bad
def results (P : Program) (s : St) : List ResultVar → Tree (List Value)
  | [] => .leaf []
  | r :: l => (result1 P s r).bind fun v => (results P s l).bind fun vs => .leaf (v :: vs)
def packed : List Value → Value
  | [v] => v
  | l => .tuple ⟨l⟩

/-- What a program's functions come to; the sums of calls and of loops that are given. -/
structure Sums where
  call : FuncId → Option Sum
  loop : FuncId → Nat → Option LSum
def evCall (P : Program) (fns : FuncId → Option Func) (sums : Sums) : Nat → FuncId → Sum
  | 0, _, _, _ => .bad
  | n + 1, f, args, H => match sums.call f with
    | some s => s args H
    | none => match fns f with
      | none => .bad
      | some fn => match fn.body with
        | none => .bad
        | some c => cond (Nat.ble args.length fn.ntmps)
          (evCode P (evCall P fns sums n) (sums.loop f) H.n n c ⟨initT args 0 fn.ntmps, H, []⟩ fun e s => match e with
            | .exit _ => .bad
            | _ => (results P s fn.results.toList).bind fun vs => .leaf (packed vs, s.H, s.L.filter fun i => Nat.blt i H.n))
          .bad
end Go.Proofs.YtifojacfedjedaaGreat.Ev
end
