/- Worlds that differ at some blocks alone, and blocks that are known whole. No condition. The words of a world, and accesses, as plain numbers and lists. No condition. A region that draws its order begins: its world gets a name, of which S alone is known. No condition. Where the spots of a chart stand, in plain numbers: the cell of a spot and the spot of a cell undo each other. Condition: the numbers of threads, slots and keys are not negative. -/
import Derived.Below
import Derived.WalkKit
import Derived.Laws.OwnMore
import Derived.Deep.Draws
import Derived.Laws.Rows
import Derived.Lib.Hide
import Derived.RowKit
import Derived.IntWalk
import Derived.Test.YtbgdhahdihbpaaaWWords
import Derived.Test.YtbgdhahdihbpaaaWLast
section
namespace Go.Proofs.Ytbgdhahdihbpaaa.Own
open Go.RowKit

/-- Outside S the world w' is as w was; the streams are as they were; no block has gone. -/
structure Keep (S : Nat → Prop) (w w' : World) : Prop where
  os : w'.os = w.os
  tape : w'.tape = w.tape
  output : w'.output = w.output
  size : w.heap.size ≤ w'.heap.size
  block : ∀ k, k < w.heap.size → ¬ S k → w'.heap[k]? = w.heap[k]?

def Blk (w : World) (g : Nat) (t : TypeId) (cs : Array Value) : Prop := w.heap[g]? = some (.cells cs t (0, 0))

section
variable {w w' : World} {g : Nat} {t : TypeId} {cs : Array Value} {S S' : Nat → Prop} {a b c : World}
theorem Keep.refl (S : Nat → Prop) (w : World) : Keep S w w := ⟨rfl, rfl, rfl, Nat.le_refl _, fun _ _ _ => rfl⟩
/-- Behind a step that turns blocks of S, and of its own, another one. -/
theorem Keep.step (h : Keep S a b) (k : Keep S' b c) (hs : ∀ i, i < a.heap.size → S' i → S i) : Keep S a c :=
  ⟨k.os.trans h.os, k.tape.trans h.tape, k.output.trans h.output, Nat.le_trans h.size k.size, fun i hi hn => (k.block i (Nat.lt_of_lt_of_le hi h.size) (fun x => hn (hs i hi x))).trans (h.block i hi hn)⟩
theorem Keep.trans (h : Keep S a b) (k : Keep S b c) : Keep S a c := h.step k (fun _ _ x => x)
theorem Keep.mono (h : Keep S a b) (hs : ∀ i, i < a.heap.size → S i → S' i) : Keep S' a b := ⟨h.os, h.tape, h.output, h.size, fun i hi hn => h.block i hi (fun x => hn (hs i hi x))⟩
theorem Keep.ofBelow (h : Below a.heap.size a b) (S : Nat → Prop) : Keep S a b := ⟨h.os, h.tape, h.output, h.size, fun i hi _ => h.block i hi⟩
theorem Keep.below {B : Nat} (h : Keep S a b) (hB : B ≤ a.heap.size) (hs : ∀ i, i < B → ¬ S i) : Below B a b := ⟨h.os, h.tape, h.output, h.size, fun i hi => h.block i (Nat.lt_of_lt_of_le hi hB) (hs i hi)⟩
theorem Keep.belowStep (h : Keep S a b) (k : Below b.heap.size b c) : Keep S a c := h.trans (Keep.ofBelow k S)
theorem Keep.drew (h : Keep S a b) : Keep S a b.drew := ⟨h.os, h.tape, h.output, h.size, h.block⟩
theorem Keep.drewN (h : Keep S a b) (n : Nat) : Keep S a (b.drewN n) := ⟨h.os, h.tape, h.output, h.size, h.block⟩
theorem Keep.alloc (h : Keep S a b) (o : Obj) : Keep S a (b.alloc o) :=
  ⟨h.os, h.tape, h.output, by have := h.size; simp; omega, fun i hi hn => (Below.heap_alloc _ _ _ (Nat.lt_of_lt_of_le hi h.size)).trans (h.block i hi hn)⟩
theorem Keep.setCell (h : Keep S a b) {p : Addr} (hp : p.block < a.heap.size → S p.block) (u : Value) : Keep S a (b.setCell p u) :=
  ⟨h.os, h.tape, h.output, by have := h.size; simpa [World.setCell] using this, fun i hi hn => (Below.heap_setCell _ _ _ _ (fun e => hn (by subst e; exact hp hi))).trans (h.block i hi hn)⟩

theorem below_drewN {B : Nat} {a w : World} (h : Below B a w) (n : Nat) : Below B a (w.drewN n) := ⟨h.os, h.tape, h.output, h.size, h.block⟩
theorem below_step {a b c : World} (h : Below a.heap.size a b) (k : Below b.heap.size b c) : Below a.heap.size a c := h.trans (k.mono h.size)

theorem Blk.lt (h : Blk w g t cs) : g < w.heap.size := by
  rcases Nat.lt_or_ge g w.heap.size with hlt | hge
  · exact hlt
  · unfold Blk at h; rw [Array.getElem?_eq_none hge] at h; cases h
theorem Blk.cell (h : Blk w g t cs) (i : Nat) : w.cell? ⟨g, i, none⟩ = cs[i]? := cell_of_row w g i cs t (0, 0) h
theorem Blk.free (h : Blk w g t cs) (i : Nat) : w.frozen? ⟨g, i, none⟩ = false := by
  unfold Blk at h
  simp [World.frozen?, h]
theorem Blk.new (w : World) (t : TypeId) (cs : Array Value) : Blk (w.alloc (.cells cs t)) w.heap.size t cs := heap_alloc_new w _
theorem Blk.newAt (w : World) (t : TypeId) (cs : Array Value) (n : Nat) (hn : n = w.heap.size) : Blk (w.alloc (.cells cs t)) n t cs := by subst hn; exact heap_alloc_new w _
theorem Blk.drew (h : Blk w g t cs) : Blk w.drew g t cs := h
theorem Blk.drewN (h : Blk w g t cs) (n : Nat) : Blk (w.drewN n) g t cs := h
theorem Blk.alloc (h : Blk w g t cs) (o : Obj) : Blk (w.alloc o) g t cs := (Below.heap_alloc w o g h.lt).trans h
theorem Blk.set (h : Blk w g t cs) (i : Nat) (u : Value) : Blk (w.setCell ⟨g, i, none⟩ u) g t (cs.setIfInBounds i u) := by
  unfold Blk at h ⊢
  simp [World.setCell, Array.getElem?_modify, h]
theorem Blk.far (h : Blk w g t cs) {p : Addr} (hp : g ≠ p.block) (u : Value) : Blk (w.setCell p u) g t cs := (Below.heap_setCell w p u g hp).trans h
theorem Blk.keep (h : Blk w g t cs) (k : Keep S w w') (hn : ¬ S g) : Blk w' g t cs := (k.block g h.lt hn).trans h
theorem Blk.below (h : Blk w g t cs) (k : Below w.heap.size w w') : Blk w' g t cs := (k.block g h.lt).trans h
theorem Blk.later (k : Below w.heap.size w w') (h : Blk w g t cs) : Blk w' g t cs := (k.block g h.lt).trans h
theorem Blk.ne {g' : Nat} {t' : TypeId} {cs' : Array Value} (h : Blk w g t cs) (h' : Blk w g' t' cs') (hne : t ≠ t') : g ≠ g' := by
  rintro rfl
  unfold Blk at h h'
  rw [h] at h'
  injection h' with h'
  injection h' with _ ht
  exact hne ht
theorem Blk.setBack {i : Nat} {u : Value} {cs' : Array Value} (h : Blk w g t cs) (e : cs.setIfInBounds i u = cs') : Blk (w.setCell ⟨g, i, none⟩ u) g t cs' := by subst e; exact h.set i u
theorem Blk.all (h : Blk w g t cs) : Blk w g t cs ∧ (∀ i, w.cell? ⟨g, i, none⟩ = cs[i]?) ∧ ∀ i, w.frozen? ⟨g, i, none⟩ = false := ⟨h, h.cell, h.free⟩
/-- Kept where nothing of S is below the size. -/
theorem Blk.same (h : Blk w g t cs) (e : w'.heap[g]? = w.heap[g]?) : Blk w' g t cs := e.trans h
/-- The world gets a name: what is known of it is S. -/
theorem wp_at {P : Program} {c : Code} {Q : Exit → Act → World → Prop} {a : Act} {S : World → Prop} (hS : S w) (h : ∀ w, S w → Code.wp P c Q a w) : Code.wp P c Q a w := h w hS
theorem list_at {P : Program} {ops : Array Oper} {l : List Oper} {Q : Exit → Act → World → Prop} {a : Act} {S : World → Prop} (hS : S w) (h : ∀ w, S w → wpList P ops Q l a w) : wpList P ops Q l a w := h w hS
theorem then_at {K : Act → World → Prop} {Q : Exit → Act → World → Prop} {e : Exit} {a : Act} {S : World → Prop} (hS : S w) (h : ∀ w, S w → Exit.then K Q e a w) : Exit.then K Q e a w := h w hS
theorem body_at {P : Program} {f : Func} {R : Ending → World → Prop} {e : Exit} {a : Act} {S : World → Prop} (hS : S w) (h : ∀ w, S w → bodyPost P f R e a w) : bodyPost P f R e a w := h w hS
end
attribute [irreducible] Blk
/-- What is closed by what is known. -/
theorem got {P : Prop} (h : P := by repeat (first | (with_reducible assumption) | (with_reducible apply Blk.drew) | (with_reducible apply Blk.drewN) | (with_reducible exact Blk.newAt _ _ _ _ (by first | (simp; done) | (simp; omega) | rfl)) | (with_reducible apply Blk.alloc) | ((with_reducible apply Blk.far); (case hp => first | assumption | exact Ne.symm (by assumption) | omega | (simp; done) | (simp; omega))) | (with_reducible apply Blk.setBack) | (simp only [List.setIfInBounds_toArray, List.set_cons_zero, List.set_cons_succ]; rfl) | rfl | (simp; done))) : P := h
theorem gotB {P : Prop} (h : P := by repeat (first | (with_reducible assumption) | (with_reducible exact Below.refl _ _) | (with_reducible refine Below.drew ?_) | (with_reducible refine below_drewN ?_ _) | (with_reducible refine Below.alloc ?_ (by first | assumption | omega | (simp; done) | (simp; omega)) _) | (with_reducible refine Below.setCell ?_ (by first | assumption | omega | (simp; done) | (simp; omega)) _))) : P := h
theorem gotK {P : Prop} (h : P := by repeat (first | (with_reducible assumption) | (with_reducible exact Keep.refl _ _) | (with_reducible refine Keep.drew ?_) | (with_reducible refine Keep.drewN ?_ _) | (with_reducible refine Keep.alloc ?_ _) | (with_reducible refine Keep.setCell ?_ (by intro hh; (try dsimp only at hh ⊢); first | omega | (simp; done) | (simp at hh; omega)) _))) : P := h
end Go.Proofs.Ytbgdhahdihbpaaa.Own
end

section
namespace Go.Proofs.Ytbgdhahdihbpaaa.Model
open Go.RowKit Go.IntWalk

structure Cfg where
  T : Int
  S : Int
  K : Int
  G : Int
  Q : Int
deriving DecidableEq

def Cfg.Rt (c : Cfg) : Prop := 1 ≤ c.T ∧ c.T ≤ 8 ∧ 1 ≤ c.S ∧ c.S ≤ 12 ∧ 1 ≤ c.K ∧ c.K ≤ 8 ∧ 0 ≤ c.G ∧ c.G ≤ 1073741823 ∧ c.Q ≤ 1099511627775
instance (c : Cfg) : Decidable c.Rt := by unfold Cfg.Rt; infer_instance
def Cfg.len (c : Cfg) : Int := 2 + c.T + 4 * c.S + c.K
/-- Where a spot stands in a world that is right; -1: nowhere. -/
def Cfg.cell (c : Cfg) (kind of : Int) : Int :=
  if kind = 1 ∧ of = 0 then 0 else if kind = 2 ∧ of = 0 then 1
  else if kind = 3 ∧ 0 ≤ of ∧ of < c.T then 2 + of
  else if 4 ≤ kind ∧ kind ≤ 7 ∧ 0 ≤ of ∧ of < c.S then 2 + c.T + (kind - 4) + 4 * of
  else if kind = 8 ∧ 0 ≤ of ∧ of < c.K then 2 + c.T + 4 * c.S + of
  else -1
theorem Cfg.cell_range {c : Cfg} (h : c.Rt) (kind of : Int) : -1 ≤ c.cell kind of ∧ c.cell kind of < c.len ∧ c.len ≤ 66 := by
  obtain ⟨t1, t2, s1, s2, k1, k2, _⟩ := h
  unfold Cfg.cell Cfg.len
  repeat' split
  all_goals omega
def Cfg.cellAny (c : Cfg) (kind of : Int) : Int := if c.Rt then c.cell kind of else -1
def Cfg.lenAny (c : Cfg) : Int := if c.Rt then c.len else 0

/-- An access that was done. -/
structure Tch where
  kind : Int
  sk : Int
  so : Int
  old : Int
  new : Int
  done : Bool
deriving DecidableEq
def Tch.none : Tch := ⟨0, 0, 0, 0, 0, false⟩

structure Mem where
  c : Cfg
  ws : List Int
  last : Tch
  many : Int
deriving DecidableEq

/-- The word of a spot; 0 where there is none. -/
def Mem.at (M : Mem) (kind of : Int) : Int := if 0 ≤ M.c.cell kind of then M.ws.getD (M.c.cell kind of).toNat 0 else 0
def layF (v : Int) : Int → Int × Bool := fun _ => (v, true)
def sameF : Int → Int × Bool := fun x => (x, true)
def swapF (old v : Int) : Int → Int × Bool := fun x => if x = old then (v, true) else (x, false)
def addF (v : Int) : Int → Int × Bool := fun x => ((x + v) % 18446744073709551616, true)
/-- An access with an effect. -/
def Mem.acc (M : Mem) (k kind of : Int) (f : Int → Int × Bool) : Mem :=
  if 0 ≤ M.c.cell kind of then
    { M with ws := M.ws.set (M.c.cell kind of).toNat (f (M.at kind of)).1, last := ⟨k, kind, of, M.at kind of, (f (M.at kind of)).1, (f (M.at kind of)).2⟩, many := wrap64 (M.many + 1) }
  else { M with last := ⟨k, kind, of, 0, 0, false⟩, many := wrap64 (M.many + 1) }
def Mem.load (M : Mem) (kind of : Int) : Mem := M.acc 1 kind of sameF
def Mem.store (M : Mem) (kind of v : Int) : Mem := M.acc 2 kind of (layF v)
def Mem.swap (M : Mem) (kind of old v : Int) : Mem := M.acc 3 kind of (swapF old v)
def Mem.swaps (M : Mem) (kind of old : Int) : Bool := decide (0 ≤ M.c.cell kind of ∧ M.at kind of = old)
def Mem.add (M : Mem) (kind of v : Int) : Mem := M.acc 4 kind of (addF v)

/-- An effect that makes words of words. -/
def WordF (f : Int → Int × Bool) : Prop := ∀ x, 0 ≤ x → x < 18446744073709551616 → 0 ≤ (f x).1 ∧ (f x).1 < 18446744073709551616
/-- A word. -/
def Word (v : Int) : Prop := 0 ≤ v ∧ v < 18446744073709551616
theorem WordF.same : WordF sameF := fun _ a b => ⟨a, b⟩
theorem WordF.lay {v : Int} (h : Word v) : WordF (layF v) := fun _ _ _ => h
theorem WordF.swap {o v : Int} (h : Word v) : WordF (swapF o v) := fun _ a b => by unfold swapF; split; exact h; exact ⟨a, b⟩
theorem WordF.add (v : Int) : WordF (addF v) := fun _ _ _ => by unfold addF; dsimp only; omega
/-- A memory that a world has: right, all words there, each a word. -/
structure Mem.Ok (M : Mem) : Prop where
  rt : M.c.Rt
  len : (M.ws.length : Int) = M.c.len
  words : ∀ x ∈ M.ws, 0 ≤ x ∧ x < 18446744073709551616

theorem Mem.at_range {M : Mem} (h : M.Ok) (kind of : Int) : 0 ≤ M.at kind of ∧ M.at kind of < 18446744073709551616 := by
  unfold Mem.at
  split
  · rename_i hc
    have hr := Cfg.cell_range h.rt kind of
    have hl : (M.c.cell kind of).toNat < M.ws.length := by have := h.len; omega
    rw [List.getD_eq_getElem?_getD, List.getElem?_eq_getElem hl]
    exact h.words _ (List.getElem_mem hl)
  · omega
theorem Mem.Ok.acc {M : Mem} (h : M.Ok) (k kind of : Int) {f : Int → Int × Bool} (hf : WordF f) : (M.acc k kind of f).Ok := by
  unfold Mem.acc
  split
  · refine ⟨h.rt, by simpa using h.len, fun x hx => ?_⟩
    rcases List.mem_or_eq_of_mem_set hx with hx | rfl
    · exact h.words _ hx
    · exact hf _ (M.at_range h kind of).1 (M.at_range h kind of).2
  · exact ⟨h.rt, h.len, h.words⟩
theorem Mem.Ok.load {M : Mem} (h : M.Ok) (kind of : Int) : (M.load kind of).Ok := h.acc _ _ _ WordF.same
theorem Mem.Ok.store {M : Mem} (h : M.Ok) (kind of : Int) {v : Int} (hv : Word v) : (M.store kind of v).Ok := h.acc _ _ _ (WordF.lay hv)
theorem Mem.Ok.swap {M : Mem} (h : M.Ok) (kind of old : Int) {v : Int} (hv : Word v) : (M.swap kind of old v).Ok := h.acc _ _ _ (WordF.swap hv)
theorem Mem.Ok.add {M : Mem} (h : M.Ok) (kind of v : Int) : (M.add kind of v).Ok := h.acc _ _ _ (WordF.add v)
theorem Mem.acc_old (M : Mem) (k kind of : Int) (f : Int → Int × Bool) : (M.acc k kind of f).last.old = M.at kind of := by
  unfold Mem.acc Mem.at; split <;> rfl
theorem Mem.acc_c (M : Mem) (k kind of : Int) (f : Int → Int × Bool) : (M.acc k kind of f).c = M.c := by unfold Mem.acc; split <;> rfl
end Go.Proofs.Ytbgdhahdihbpaaa.Model
end

section
namespace Go.Proofs.Ytbgdhahdihbpaaa.Own
open Go.RowKit Go.Proofs.YtbgdhahdihbpaaaW.PrintLast
theorem begin_ {P : Program} {ops : Array Oper} {Q : Exit → Act → World → Prop} {S : World → Prop} {ds : List Nat} {id n : Nat} {a : Act} {w : World} (l : Array Bool) (hm : P.follows .mixedOrders = true) (hn : ops.size = n) (hl : Array.replicate n false = l) (hS : S w.drew)
    (h : ∀ w', S w' → wpAnyLast P .any ops Q S ds n l a w') : (Code.region id ops true).wp P Q a w := start_ l hm hn hl hS (fun hS => h _ hS)
end Go.Proofs.Ytbgdhahdihbpaaa.Own
end

section
namespace Go.Proofs.Ytbgdhahdihbpaaa.ChartMath

def Rt (T S K G Q : Int) : Prop := 1 ≤ T ∧ T ≤ 8 ∧ 1 ≤ S ∧ S ≤ 12 ∧ 1 ≤ K ∧ K ≤ 8 ∧ 0 ≤ G ∧ G ≤ 1073741823 ∧ Q ≤ 1099511627775
instance (T S K G Q : Int) : Decidable (Rt T S K G Q) := by unfold Rt; infer_instance

def lenOf (T S K : Int) : Int := 2 + T + 4 * S + K
def cellOf (T S K kind of : Int) : Int :=
  if kind = 1 ∧ of = 0 then 0 else if kind = 2 ∧ of = 0 then 1
  else if kind = 3 ∧ 0 ≤ of ∧ of < T then 2 + of
  else if 4 ≤ kind ∧ kind ≤ 7 ∧ 0 ≤ of ∧ of < S then 2 + T + (kind - 4) + 4 * of
  else if kind = 8 ∧ 0 ≤ of ∧ of < K then 2 + T + 4 * S + of
  else -1
def kindAt (T S i : Int) : Int := if i = 0 then 1 else if i = 1 then 2 else if i < 2 + T then 3 else if i < 2 + T + 4 * S then 4 + (i - 2 - T) % 4 else 8
def ofAt (T S i : Int) : Int := if i < 2 then 0 else if i < 2 + T then i - 2 else if i < 2 + T + 4 * S then (i - 2 - T) / 4 else i - 2 - T - 4 * S

theorem cell_at {T S K i : Int} (h0 : 0 ≤ i) (h1 : i < lenOf T S K) : cellOf T S K (kindAt T S i) (ofAt T S i) = i := by
  unfold lenOf at h1
  unfold kindAt ofAt
  by_cases a : i = 0
  · subst a; simp [cellOf]
  by_cases b : i = 1
  · subst b; simp [cellOf]
  rw [if_neg a, if_neg b, if_neg (show ¬ i < 2 by omega)]
  by_cases c : i < 2 + T
  · rw [if_pos c, if_pos c]; unfold cellOf
    rw [if_neg (by omega), if_neg (by omega), if_pos (by omega)]; omega
  rw [if_neg c, if_neg c]
  by_cases d : i < 2 + T + 4 * S
  · rw [if_pos d, if_pos d]; unfold cellOf
    rw [if_neg (by omega), if_neg (by omega), if_neg (by omega), if_pos (by omega)]; omega
  rw [if_neg d, if_neg d]; unfold cellOf
  rw [if_neg (by omega), if_neg (by omega), if_neg (by omega), if_neg (by omega), if_pos (by omega)]; omega

theorem at_cell {T S K kind of : Int} (hT : 0 ≤ T) (hS : 0 ≤ S) (hK : 0 ≤ K) (h : 0 ≤ cellOf T S K kind of) :
    cellOf T S K kind of < lenOf T S K ∧ kindAt T S (cellOf T S K kind of) = kind ∧ ofAt T S (cellOf T S K kind of) = of := by
  unfold cellOf at h ⊢
  unfold lenOf
  by_cases a : kind = 1 ∧ of = 0
  · rw [if_pos a]; obtain ⟨rfl, rfl⟩ := a; exact ⟨by omega, by simp [kindAt], by simp [ofAt]⟩
  rw [if_neg a] at h ⊢
  by_cases b : kind = 2 ∧ of = 0
  · rw [if_pos b]; obtain ⟨rfl, rfl⟩ := b; exact ⟨by omega, by simp [kindAt], by simp [ofAt]⟩
  rw [if_neg b] at h ⊢
  by_cases c : kind = 3 ∧ 0 ≤ of ∧ of < T
  · rw [if_pos c]; unfold kindAt ofAt
    rw [if_neg (by omega), if_neg (by omega), if_pos (by omega), if_neg (by omega), if_pos (by omega)]; omega
  rw [if_neg c] at h ⊢
  by_cases d : 4 ≤ kind ∧ kind ≤ 7 ∧ 0 ≤ of ∧ of < S
  · rw [if_pos d]; unfold kindAt ofAt
    rw [if_neg (by omega), if_neg (by omega), if_neg (by omega), if_pos (by omega), if_neg (by omega), if_neg (by omega), if_pos (by omega)]; omega
  rw [if_neg d] at h ⊢
  by_cases e : kind = 8 ∧ 0 ≤ of ∧ of < K
  · rw [if_pos e]; unfold kindAt ofAt
    rw [if_neg (by omega), if_neg (by omega), if_neg (by omega), if_neg (by omega), if_neg (by omega), if_neg (by omega), if_neg (by omega)]; omega
  rw [if_neg e] at h
  omega

theorem cell_low {T S K kind of : Int} (hT : 0 ≤ T) (hS : 0 ≤ S) : -1 ≤ cellOf T S K kind of := by
  unfold cellOf; repeat' split
  all_goals omega

/-- Where spots of a kind stand: from, many, apart. -/
def ofv (T S K kind : Int) : Int × Int × Int :=
  if kind = 1 then (0, 1, 1) else if kind = 2 then (1, 1, 1) else if kind = 3 then (2, T, 1)
  else if 4 ≤ kind ∧ kind ≤ 7 then (2 + T + kind - 4, S, 4) else if kind = 8 then (2 + T + 4 * S, K, 1) else (0, 0, 0)

theorem cell_ofv {T S K kind of : Int} (hT : 1 ≤ T) (hS : 1 ≤ S) (hK : 1 ≤ K) :
    cellOf T S K kind of = if (ofv T S K kind).1 = 0 ∧ (ofv T S K kind).2.1 = 0 ∧ (ofv T S K kind).2.2 = 0 then -1 else if of < 0 then -1 else if of ≥ (ofv T S K kind).2.1 then -1 else (ofv T S K kind).1 + of * (ofv T S K kind).2.2 := by
  unfold ofv
  by_cases a : kind = 1
  · subst a; rw [if_pos rfl]; unfold cellOf; dsimp only; repeat' split
    all_goals omega
  rw [if_neg a]
  by_cases b : kind = 2
  · subst b; rw [if_pos rfl]; unfold cellOf; dsimp only; repeat' split
    all_goals omega
  rw [if_neg b]
  by_cases c : kind = 3
  · subst c; rw [if_pos rfl]; unfold cellOf; dsimp only; repeat' split
    all_goals omega
  rw [if_neg c]
  by_cases d : 4 ≤ kind ∧ kind ≤ 7
  · rw [if_pos d]; unfold cellOf; dsimp only; repeat' split
    all_goals omega
  rw [if_neg d]
  by_cases e : kind = 8
  · subst e; rw [if_pos rfl]; unfold cellOf; dsimp only; repeat' split
    all_goals omega
  rw [if_neg e]; unfold cellOf; dsimp only; repeat' split
  all_goals omega

/-- What the loop of 'At' reckons at the right kind. -/
theorem at_div {T S K i : Int} (h0 : 0 ≤ i) (h1 : i < lenOf T S K) :
    Int.tdiv (i - (ofv T S K (kindAt T S i)).1) (ofv T S K (kindAt T S i)).2.2 = ofAt T S i ∧ 1 ≤ kindAt T S i ∧ kindAt T S i ≤ 8 := by
  unfold lenOf at h1
  unfold kindAt ofAt
  by_cases a : i = 0
  · subst a; simp [ofv]
  by_cases b : i = 1
  · subst b; simp [ofv]
  rw [if_neg a, if_neg b, if_neg (show ¬ i < 2 by omega)]
  by_cases c : i < 2 + T
  · rw [if_pos c, if_pos c]; simp [ofv]
  rw [if_neg c, if_neg c]
  by_cases d : i < 2 + T + 4 * S
  · rw [if_pos d, if_pos d]; unfold ofv
    rw [if_neg (by omega), if_neg (by omega), if_neg (by omega), if_pos (by omega)]
    refine ⟨?_, by omega, by omega⟩
    dsimp only
    rw [Int.tdiv_eq_ediv_of_nonneg (by omega)]; omega
  rw [if_neg d, if_neg d]; simp [ofv]; omega

theorem ofv_range {T S K kind : Int} (hT : 1 ≤ T ∧ T ≤ 8) (hS : 1 ≤ S ∧ S ≤ 12) (hK : 1 ≤ K ∧ K ≤ 8) :
    0 ≤ (ofv T S K kind).1 ∧ (ofv T S K kind).1 ≤ 60 ∧ 0 ≤ (ofv T S K kind).2.1 ∧ (ofv T S K kind).2.1 ≤ 12 ∧ 0 ≤ (ofv T S K kind).2.2 ∧ (ofv T S K kind).2.2 ≤ 4 ∧ (1 ≤ kind → kind ≤ 8 → 1 ≤ (ofv T S K kind).2.2) := by
  unfold ofv; repeat' split
  all_goals (dsimp only; omega)

end Go.Proofs.Ytbgdhahdihbpaaa.ChartMath
end
