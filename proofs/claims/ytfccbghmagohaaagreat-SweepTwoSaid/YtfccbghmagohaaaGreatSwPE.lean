/- A sweep that goes on alone, to its end: the loop, and the call. No condition. A sweep that goes on alone, to its end: what the call comes to. No condition. -/
import Derived.Test.YtfccbghmagohaaaGreatSwTQ
section
namespace Go.Proofs.YtfccbghmagohaaaGreat.Bound
open Go.Proofs.YtfccbghmagohaaaGreat.Ev Go.Proofs.YtfccbghmagohaaaGreat.ChartMath
set_option linter.unusedVariables false
set_option linter.unusedSimpArgs false
def soL : List (List Atom → Tree (Nat × List Atom)) := [so_enter, so_number, so_agedL, so_agedS, so_die, so_dead, so_tick, so_note, so_retired, so_grace, so_keys, so_unmark, so_past, so_others, so_part, so_close, so_closed, so_nought, so_free, so_later, so_done]
/-- A step of a sweep that has a kind, and what is open. -/
def stepK (st : Nat × List Atom) : Option (Nat × List Atom) := (nthD (fun _ => .bad) soL st.1 st.2).get
/-- So many steps at most, to its end: how many there were. -/
def runK : Nat → Nat × List Atom → Option (Nat × List Atom)
  | 0, _ => none
  | f + 1, st => cond (Nat.beq st.1 20) (some (0, st.2)) (match stepK st with
    | some r => match runK f r with
      | some (n, y) => some (n + 1, y)
      | none => none
    | none => none)
def endP (k : Nat) (sl : List (Nat × Pat)) (n : Nat) : SPat := ⟨sl, n, swC k 0 5 :: swSub k 0 5 ++ [(3, 111, memK 4), (4, 22, .ints .u64)], 5 + (swSub k 0 0).length, upTo 5 []⟩
def EM : MForm := ⟨(upTo 21 []).map fun k => ([0, 1, 2, 8, 9], endP k [(0, .ptr 0 0 none), (1, .ptr 3 0 none), (2, i6), (8, i6), (9, i6)] 20), [], [([6], endP 20 [(6, i6)] 20)]⟩
def emA (k : Nat) (most bound i : Int) (x : List Atom) : List Atom := .n k :: .i most :: .i bound :: .i i :: x
noncomputable def rdE (x : List Atom) : Tree (Ex × List Atom) := roundM sumsS1 60 16 2 5 EM x
theorem rd_enter (most bound i : Int) (cT : Int) (cS : Int) (cK : Int) (cG : Int) (cQ : Int) (th : Int) (sl : Int) (gn : Int) (cl : Bool) (no : Int) (eslot : Int) (es : Int) (eh : Int) (el : Nat) (ec : Nat) (etakes : Bool) (edone : Bool) (eno : Int) (eword : Int) (est : List Int) (T : Int) (S : Int) (K : Int) (G : Int) (Q : Int) (l : Nat) (c : Nat) (tk : Int) (ts : Int) (to : Int) (told : Int) (tnew : Int) (td : Bool) (many : Int) (ws : List Int) : (rdE (emA 0 most bound i (.i cT :: .i cS :: .i cK :: .i cG :: .i cQ :: .i th :: .i sl :: .i gn :: .b cl :: .i no :: .i eslot :: .i es :: .i eh :: .n el :: .n ec :: .b etakes :: .b edone :: .i eno :: .i eword :: .ws est :: .i T :: .i S :: .i K :: .i G :: .i Q :: .n l :: .n c :: .i tk :: .i ts :: .i to :: .i told :: .i tnew :: .b td :: .i many :: .ws ws :: []))).get = (Tree.br (decide (i < bound)) ((so_enter (.i cT :: .i cS :: .i cK :: .i cG :: .i cQ :: .i th :: .i sl :: .i gn :: .b cl :: .i no :: .i eslot :: .i es :: .i eh :: .n el :: .n ec :: .b etakes :: .b edone :: .i eno :: .i eword :: .ws est :: .i T :: .i S :: .i K :: .i G :: .i Q :: .n l :: .n c :: .i tk :: .i ts :: .i to :: .i told :: .i tnew :: .b td :: .i many :: .ws ws :: [])).bind fun r => .leaf (.normal, emA r.1 most bound (IntKind.i64.wrap (i + 1)) r.2)) .bad).get := by kernel_rfl
theorem rd_number (most bound i : Int) (cT : Int) (cS : Int) (cK : Int) (cG : Int) (cQ : Int) (th : Int) (sl : Int) (gn : Int) (cl : Bool) (no : Int) (T : Int) (S : Int) (K : Int) (G : Int) (Q : Int) (l : Nat) (c : Nat) (tk : Int) (ts : Int) (to : Int) (told : Int) (tnew : Int) (td : Bool) (many : Int) (ws : List Int) : (rdE (emA 1 most bound i ([.i cT, .i cS, .i cK, .i cG, .i cQ, .i th, .i sl, .i gn, .b cl, .i no, .i T, .i S, .i K, .i G, .i Q, .n l, .n c, .i tk, .i ts, .i to, .i told, .i tnew, .b td, .i many, .ws ws]))).get = (Tree.br (decide (i < bound)) ((so_number ([.i cT, .i cS, .i cK, .i cG, .i cQ, .i th, .i sl, .i gn, .b cl, .i no, .i T, .i S, .i K, .i G, .i Q, .n l, .n c, .i tk, .i ts, .i to, .i told, .i tnew, .b td, .i many, .ws ws])).bind fun r => .leaf (.normal, emA r.1 most bound (IntKind.i64.wrap (i + 1)) r.2)) .bad).get := by kernel_rfl
theorem rd_agedL (most bound i : Int) (cT : Int) (cS : Int) (cK : Int) (cG : Int) (cQ : Int) (th : Int) (sl : Int) (gn : Int) (cl : Bool) (no : Int) (aother : Int) (anumber : Int) (alater : Bool) (aat : Int) (aslot : Int) (aslots : Int) (T : Int) (S : Int) (K : Int) (G : Int) (Q : Int) (l : Nat) (c : Nat) (tk : Int) (ts : Int) (to : Int) (told : Int) (tnew : Int) (td : Bool) (many : Int) (ws : List Int) : (rdE (emA 2 most bound i ([.i cT, .i cS, .i cK, .i cG, .i cQ, .i th, .i sl, .i gn, .b cl, .i no, .i aother, .i anumber, .b alater, .i aat, .i aslot, .i aslots, .i T, .i S, .i K, .i G, .i Q, .n l, .n c, .i tk, .i ts, .i to, .i told, .i tnew, .b td, .i many, .ws ws]))).get = (Tree.br (decide (i < bound)) ((so_agedL ([.i cT, .i cS, .i cK, .i cG, .i cQ, .i th, .i sl, .i gn, .b cl, .i no, .i aother, .i anumber, .b alater, .i aat, .i aslot, .i aslots, .i T, .i S, .i K, .i G, .i Q, .n l, .n c, .i tk, .i ts, .i to, .i told, .i tnew, .b td, .i many, .ws ws])).bind fun r => .leaf (.normal, emA r.1 most bound (IntKind.i64.wrap (i + 1)) r.2)) .bad).get := by kernel_rfl
theorem rd_agedS (most bound i : Int) (cT : Int) (cS : Int) (cK : Int) (cG : Int) (cQ : Int) (th : Int) (sl : Int) (gn : Int) (cl : Bool) (no : Int) (aother : Int) (anumber : Int) (alater : Bool) (aat : Int) (aslot : Int) (aslots : Int) (T : Int) (S : Int) (K : Int) (G : Int) (Q : Int) (l : Nat) (c : Nat) (tk : Int) (ts : Int) (to : Int) (told : Int) (tnew : Int) (td : Bool) (many : Int) (ws : List Int) : (rdE (emA 3 most bound i ([.i cT, .i cS, .i cK, .i cG, .i cQ, .i th, .i sl, .i gn, .b cl, .i no, .i aother, .i anumber, .b alater, .i aat, .i aslot, .i aslots, .i T, .i S, .i K, .i G, .i Q, .n l, .n c, .i tk, .i ts, .i to, .i told, .i tnew, .b td, .i many, .ws ws]))).get = (Tree.br (decide (i < bound)) ((so_agedS ([.i cT, .i cS, .i cK, .i cG, .i cQ, .i th, .i sl, .i gn, .b cl, .i no, .i aother, .i anumber, .b alater, .i aat, .i aslot, .i aslots, .i T, .i S, .i K, .i G, .i Q, .n l, .n c, .i tk, .i ts, .i to, .i told, .i tnew, .b td, .i many, .ws ws])).bind fun r => .leaf (.normal, emA r.1 most bound (IntKind.i64.wrap (i + 1)) r.2)) .bad).get := by kernel_rfl
theorem rd_die (most bound i : Int) (cT : Int) (cS : Int) (cK : Int) (cG : Int) (cQ : Int) (th : Int) (sl : Int) (gn : Int) (cl : Bool) (no : Int) (T : Int) (S : Int) (K : Int) (G : Int) (Q : Int) (l : Nat) (c : Nat) (tk : Int) (ts : Int) (to : Int) (told : Int) (tnew : Int) (td : Bool) (many : Int) (ws : List Int) : (rdE (emA 4 most bound i ([.i cT, .i cS, .i cK, .i cG, .i cQ, .i th, .i sl, .i gn, .b cl, .i no, .i T, .i S, .i K, .i G, .i Q, .n l, .n c, .i tk, .i ts, .i to, .i told, .i tnew, .b td, .i many, .ws ws]))).get = (Tree.br (decide (i < bound)) ((so_die ([.i cT, .i cS, .i cK, .i cG, .i cQ, .i th, .i sl, .i gn, .b cl, .i no, .i T, .i S, .i K, .i G, .i Q, .n l, .n c, .i tk, .i ts, .i to, .i told, .i tnew, .b td, .i many, .ws ws])).bind fun r => .leaf (.normal, emA r.1 most bound (IntKind.i64.wrap (i + 1)) r.2)) .bad).get := by kernel_rfl
theorem rd_dead (most bound i : Int) (cT : Int) (cS : Int) (cK : Int) (cG : Int) (cQ : Int) (th : Int) (sl : Int) (gn : Int) (cl : Bool) (w : Int) (no : Int) (T : Int) (S : Int) (K : Int) (G : Int) (Q : Int) (l : Nat) (c : Nat) (tk : Int) (ts : Int) (to : Int) (told : Int) (tnew : Int) (td : Bool) (many : Int) (ws : List Int) : (rdE (emA 5 most bound i ([.i cT, .i cS, .i cK, .i cG, .i cQ, .i th, .i sl, .i gn, .b cl, .i w, .i no, .i T, .i S, .i K, .i G, .i Q, .n l, .n c, .i tk, .i ts, .i to, .i told, .i tnew, .b td, .i many, .ws ws]))).get = (Tree.br (decide (i < bound)) ((so_dead ([.i cT, .i cS, .i cK, .i cG, .i cQ, .i th, .i sl, .i gn, .b cl, .i w, .i no, .i T, .i S, .i K, .i G, .i Q, .n l, .n c, .i tk, .i ts, .i to, .i told, .i tnew, .b td, .i many, .ws ws])).bind fun r => .leaf (.normal, emA r.1 most bound (IntKind.i64.wrap (i + 1)) r.2)) .bad).get := by kernel_rfl
theorem rd_tick (most bound i : Int) (cT : Int) (cS : Int) (cK : Int) (cG : Int) (cQ : Int) (th : Int) (sl : Int) (gn : Int) (cl : Bool) (no : Int) (T : Int) (S : Int) (K : Int) (G : Int) (Q : Int) (l : Nat) (c : Nat) (tk : Int) (ts : Int) (to : Int) (told : Int) (tnew : Int) (td : Bool) (many : Int) (ws : List Int) : (rdE (emA 6 most bound i ([.i cT, .i cS, .i cK, .i cG, .i cQ, .i th, .i sl, .i gn, .b cl, .i no, .i T, .i S, .i K, .i G, .i Q, .n l, .n c, .i tk, .i ts, .i to, .i told, .i tnew, .b td, .i many, .ws ws]))).get = (Tree.br (decide (i < bound)) ((so_tick ([.i cT, .i cS, .i cK, .i cG, .i cQ, .i th, .i sl, .i gn, .b cl, .i no, .i T, .i S, .i K, .i G, .i Q, .n l, .n c, .i tk, .i ts, .i to, .i told, .i tnew, .b td, .i many, .ws ws])).bind fun r => .leaf (.normal, emA r.1 most bound (IntKind.i64.wrap (i + 1)) r.2)) .bad).get := by kernel_rfl
theorem rd_note (most bound i : Int) (cT : Int) (cS : Int) (cK : Int) (cG : Int) (cQ : Int) (th : Int) (sl : Int) (gn : Int) (cl : Bool) (r : Int) (no : Int) (T : Int) (S : Int) (K : Int) (G : Int) (Q : Int) (l : Nat) (c : Nat) (tk : Int) (ts : Int) (to : Int) (told : Int) (tnew : Int) (td : Bool) (many : Int) (ws : List Int) : (rdE (emA 7 most bound i ([.i cT, .i cS, .i cK, .i cG, .i cQ, .i th, .i sl, .i gn, .b cl, .i r, .i no, .i T, .i S, .i K, .i G, .i Q, .n l, .n c, .i tk, .i ts, .i to, .i told, .i tnew, .b td, .i many, .ws ws]))).get = (Tree.br (decide (i < bound)) ((so_note ([.i cT, .i cS, .i cK, .i cG, .i cQ, .i th, .i sl, .i gn, .b cl, .i r, .i no, .i T, .i S, .i K, .i G, .i Q, .n l, .n c, .i tk, .i ts, .i to, .i told, .i tnew, .b td, .i many, .ws ws])).bind fun r => .leaf (.normal, emA r.1 most bound (IntKind.i64.wrap (i + 1)) r.2)) .bad).get := by kernel_rfl
theorem rd_retired (most bound i : Int) (cT : Int) (cS : Int) (cK : Int) (cG : Int) (cQ : Int) (th : Int) (sl : Int) (gn : Int) (cl : Bool) (no : Int) (T : Int) (S : Int) (K : Int) (G : Int) (Q : Int) (l : Nat) (c : Nat) (tk : Int) (ts : Int) (to : Int) (told : Int) (tnew : Int) (td : Bool) (many : Int) (ws : List Int) : (rdE (emA 8 most bound i ([.i cT, .i cS, .i cK, .i cG, .i cQ, .i th, .i sl, .i gn, .b cl, .i no, .i T, .i S, .i K, .i G, .i Q, .n l, .n c, .i tk, .i ts, .i to, .i told, .i tnew, .b td, .i many, .ws ws]))).get = (Tree.br (decide (i < bound)) ((so_retired ([.i cT, .i cS, .i cK, .i cG, .i cQ, .i th, .i sl, .i gn, .b cl, .i no, .i T, .i S, .i K, .i G, .i Q, .n l, .n c, .i tk, .i ts, .i to, .i told, .i tnew, .b td, .i many, .ws ws])).bind fun r => .leaf (.normal, emA r.1 most bound (IntKind.i64.wrap (i + 1)) r.2)) .bad).get := by kernel_rfl
theorem rd_grace (most bound i : Int) (cT : Int) (cS : Int) (cK : Int) (cG : Int) (cQ : Int) (th : Int) (sl : Int) (gn : Int) (cl : Bool) (no : Int) (gown : Int) (gat : Int) (gret : Int) (glater : Bool) (T : Int) (S : Int) (K : Int) (G : Int) (Q : Int) (l : Nat) (c : Nat) (tk : Int) (ts : Int) (to : Int) (told : Int) (tnew : Int) (td : Bool) (many : Int) (ws : List Int) : (rdE (emA 9 most bound i ([.i cT, .i cS, .i cK, .i cG, .i cQ, .i th, .i sl, .i gn, .b cl, .i no, .i gown, .i gat, .i gret, .b glater, .i T, .i S, .i K, .i G, .i Q, .n l, .n c, .i tk, .i ts, .i to, .i told, .i tnew, .b td, .i many, .ws ws]))).get = (Tree.br (decide (i < bound)) ((so_grace ([.i cT, .i cS, .i cK, .i cG, .i cQ, .i th, .i sl, .i gn, .b cl, .i no, .i gown, .i gat, .i gret, .b glater, .i T, .i S, .i K, .i G, .i Q, .n l, .n c, .i tk, .i ts, .i to, .i told, .i tnew, .b td, .i many, .ws ws])).bind fun r => .leaf (.normal, emA r.1 most bound (IntKind.i64.wrap (i + 1)) r.2)) .bad).get := by kernel_rfl
theorem rd_keys (most bound i : Int) (cT : Int) (cS : Int) (cK : Int) (cG : Int) (cQ : Int) (th : Int) (sl : Int) (gn : Int) (a : Int) (cl : Bool) (no : Int) (cn : Int) (cbut : Int) (cbelow : Int) (T : Int) (S : Int) (K : Int) (G : Int) (Q : Int) (l : Nat) (c : Nat) (tk : Int) (ts : Int) (to : Int) (told : Int) (tnew : Int) (td : Bool) (many : Int) (ws : List Int) : (rdE (emA 10 most bound i ([.i cT, .i cS, .i cK, .i cG, .i cQ, .i th, .i sl, .i gn, .i a, .b cl, .i no, .i cn, .i cbut, .i cbelow, .i T, .i S, .i K, .i G, .i Q, .n l, .n c, .i tk, .i ts, .i to, .i told, .i tnew, .b td, .i many, .ws ws]))).get = (Tree.br (decide (i < bound)) ((so_keys ([.i cT, .i cS, .i cK, .i cG, .i cQ, .i th, .i sl, .i gn, .i a, .b cl, .i no, .i cn, .i cbut, .i cbelow, .i T, .i S, .i K, .i G, .i Q, .n l, .n c, .i tk, .i ts, .i to, .i told, .i tnew, .b td, .i many, .ws ws])).bind fun r => .leaf (.normal, emA r.1 most bound (IntKind.i64.wrap (i + 1)) r.2)) .bad).get := by kernel_rfl
theorem rd_unmark (most bound i : Int) (cT : Int) (cS : Int) (cK : Int) (cG : Int) (cQ : Int) (th : Int) (sl : Int) (gn : Int) (a : Int) (cl : Bool) (w : Int) (no : Int) (cn : Int) (cbut : Int) (cbelow : Int) (T : Int) (S : Int) (K : Int) (G : Int) (Q : Int) (l : Nat) (c : Nat) (tk : Int) (ts : Int) (to : Int) (told : Int) (tnew : Int) (td : Bool) (many : Int) (ws : List Int) : (rdE (emA 11 most bound i ([.i cT, .i cS, .i cK, .i cG, .i cQ, .i th, .i sl, .i gn, .i a, .b cl, .i w, .i no, .i cn, .i cbut, .i cbelow, .i T, .i S, .i K, .i G, .i Q, .n l, .n c, .i tk, .i ts, .i to, .i told, .i tnew, .b td, .i many, .ws ws]))).get = (Tree.br (decide (i < bound)) ((so_unmark ([.i cT, .i cS, .i cK, .i cG, .i cQ, .i th, .i sl, .i gn, .i a, .b cl, .i w, .i no, .i cn, .i cbut, .i cbelow, .i T, .i S, .i K, .i G, .i Q, .n l, .n c, .i tk, .i ts, .i to, .i told, .i tnew, .b td, .i many, .ws ws])).bind fun r => .leaf (.normal, emA r.1 most bound (IntKind.i64.wrap (i + 1)) r.2)) .bad).get := by kernel_rfl
theorem rd_past (most bound i : Int) (cT : Int) (cS : Int) (cK : Int) (cG : Int) (cQ : Int) (th : Int) (sl : Int) (gn : Int) (cl : Bool) (no : Int) (T : Int) (S : Int) (K : Int) (G : Int) (Q : Int) (l : Nat) (c : Nat) (tk : Int) (ts : Int) (to : Int) (told : Int) (tnew : Int) (td : Bool) (many : Int) (ws : List Int) : (rdE (emA 12 most bound i ([.i cT, .i cS, .i cK, .i cG, .i cQ, .i th, .i sl, .i gn, .b cl, .i no, .i T, .i S, .i K, .i G, .i Q, .n l, .n c, .i tk, .i ts, .i to, .i told, .i tnew, .b td, .i many, .ws ws]))).get = (Tree.br (decide (i < bound)) ((so_past ([.i cT, .i cS, .i cK, .i cG, .i cQ, .i th, .i sl, .i gn, .b cl, .i no, .i T, .i S, .i K, .i G, .i Q, .n l, .n c, .i tk, .i ts, .i to, .i told, .i tnew, .b td, .i many, .ws ws])).bind fun r => .leaf (.normal, emA r.1 most bound (IntKind.i64.wrap (i + 1)) r.2)) .bad).get := by kernel_rfl
theorem rd_others (most bound i : Int) (cT : Int) (cS : Int) (cK : Int) (cG : Int) (cQ : Int) (th : Int) (sl : Int) (gn : Int) (a : Int) (cl : Bool) (n : Int) (no : Int) (cn : Int) (cbut : Int) (cbelow : Int) (T : Int) (S : Int) (K : Int) (G : Int) (Q : Int) (l : Nat) (c : Nat) (tk : Int) (ts : Int) (to : Int) (told : Int) (tnew : Int) (td : Bool) (many : Int) (ws : List Int) : (rdE (emA 13 most bound i ([.i cT, .i cS, .i cK, .i cG, .i cQ, .i th, .i sl, .i gn, .i a, .b cl, .i n, .i no, .i cn, .i cbut, .i cbelow, .i T, .i S, .i K, .i G, .i Q, .n l, .n c, .i tk, .i ts, .i to, .i told, .i tnew, .b td, .i many, .ws ws]))).get = (Tree.br (decide (i < bound)) ((so_others ([.i cT, .i cS, .i cK, .i cG, .i cQ, .i th, .i sl, .i gn, .i a, .b cl, .i n, .i no, .i cn, .i cbut, .i cbelow, .i T, .i S, .i K, .i G, .i Q, .n l, .n c, .i tk, .i ts, .i to, .i told, .i tnew, .b td, .i many, .ws ws])).bind fun r => .leaf (.normal, emA r.1 most bound (IntKind.i64.wrap (i + 1)) r.2)) .bad).get := by kernel_rfl
theorem rd_part (most bound i : Int) (cT : Int) (cS : Int) (cK : Int) (cG : Int) (cQ : Int) (th : Int) (sl : Int) (gn : Int) (a : Int) (cl : Bool) (w : Int) (n : Int) (no : Int) (cn : Int) (cbut : Int) (cbelow : Int) (T : Int) (S : Int) (K : Int) (G : Int) (Q : Int) (l : Nat) (c : Nat) (tk : Int) (ts : Int) (to : Int) (told : Int) (tnew : Int) (td : Bool) (many : Int) (ws : List Int) : (rdE (emA 14 most bound i ([.i cT, .i cS, .i cK, .i cG, .i cQ, .i th, .i sl, .i gn, .i a, .b cl, .i w, .i n, .i no, .i cn, .i cbut, .i cbelow, .i T, .i S, .i K, .i G, .i Q, .n l, .n c, .i tk, .i ts, .i to, .i told, .i tnew, .b td, .i many, .ws ws]))).get = (Tree.br (decide (i < bound)) ((so_part ([.i cT, .i cS, .i cK, .i cG, .i cQ, .i th, .i sl, .i gn, .i a, .b cl, .i w, .i n, .i no, .i cn, .i cbut, .i cbelow, .i T, .i S, .i K, .i G, .i Q, .n l, .n c, .i tk, .i ts, .i to, .i told, .i tnew, .b td, .i many, .ws ws])).bind fun r => .leaf (.normal, emA r.1 most bound (IntKind.i64.wrap (i + 1)) r.2)) .bad).get := by kernel_rfl
theorem rd_close (most bound i : Int) (cT : Int) (cS : Int) (cK : Int) (cG : Int) (cQ : Int) (th : Int) (sl : Int) (gn : Int) (cl : Bool) (no : Int) (T : Int) (S : Int) (K : Int) (G : Int) (Q : Int) (l : Nat) (c : Nat) (tk : Int) (ts : Int) (to : Int) (told : Int) (tnew : Int) (td : Bool) (many : Int) (ws : List Int) : (rdE (emA 15 most bound i ([.i cT, .i cS, .i cK, .i cG, .i cQ, .i th, .i sl, .i gn, .b cl, .i no, .i T, .i S, .i K, .i G, .i Q, .n l, .n c, .i tk, .i ts, .i to, .i told, .i tnew, .b td, .i many, .ws ws]))).get = (Tree.br (decide (i < bound)) ((so_close ([.i cT, .i cS, .i cK, .i cG, .i cQ, .i th, .i sl, .i gn, .b cl, .i no, .i T, .i S, .i K, .i G, .i Q, .n l, .n c, .i tk, .i ts, .i to, .i told, .i tnew, .b td, .i many, .ws ws])).bind fun r => .leaf (.normal, emA r.1 most bound (IntKind.i64.wrap (i + 1)) r.2)) .bad).get := by kernel_rfl
theorem rd_closed (most bound i : Int) (cT : Int) (cS : Int) (cK : Int) (cG : Int) (cQ : Int) (th : Int) (sl : Int) (gn : Int) (cl : Bool) (w : Int) (no : Int) (T : Int) (S : Int) (K : Int) (G : Int) (Q : Int) (l : Nat) (c : Nat) (tk : Int) (ts : Int) (to : Int) (told : Int) (tnew : Int) (td : Bool) (many : Int) (ws : List Int) : (rdE (emA 16 most bound i ([.i cT, .i cS, .i cK, .i cG, .i cQ, .i th, .i sl, .i gn, .b cl, .i w, .i no, .i T, .i S, .i K, .i G, .i Q, .n l, .n c, .i tk, .i ts, .i to, .i told, .i tnew, .b td, .i many, .ws ws]))).get = (Tree.br (decide (i < bound)) ((so_closed ([.i cT, .i cS, .i cK, .i cG, .i cQ, .i th, .i sl, .i gn, .b cl, .i w, .i no, .i T, .i S, .i K, .i G, .i Q, .n l, .n c, .i tk, .i ts, .i to, .i told, .i tnew, .b td, .i many, .ws ws])).bind fun r => .leaf (.normal, emA r.1 most bound (IntKind.i64.wrap (i + 1)) r.2)) .bad).get := by kernel_rfl
theorem rd_nought (most bound i : Int) (cT : Int) (cS : Int) (cK : Int) (cG : Int) (cQ : Int) (th : Int) (sl : Int) (gn : Int) (cl : Bool) (no : Int) (T : Int) (S : Int) (K : Int) (G : Int) (Q : Int) (l : Nat) (c : Nat) (tk : Int) (ts : Int) (to : Int) (told : Int) (tnew : Int) (td : Bool) (many : Int) (ws : List Int) : (rdE (emA 17 most bound i ([.i cT, .i cS, .i cK, .i cG, .i cQ, .i th, .i sl, .i gn, .b cl, .i no, .i T, .i S, .i K, .i G, .i Q, .n l, .n c, .i tk, .i ts, .i to, .i told, .i tnew, .b td, .i many, .ws ws]))).get = (Tree.br (decide (i < bound)) ((so_nought ([.i cT, .i cS, .i cK, .i cG, .i cQ, .i th, .i sl, .i gn, .b cl, .i no, .i T, .i S, .i K, .i G, .i Q, .n l, .n c, .i tk, .i ts, .i to, .i told, .i tnew, .b td, .i many, .ws ws])).bind fun r => .leaf (.normal, emA r.1 most bound (IntKind.i64.wrap (i + 1)) r.2)) .bad).get := by kernel_rfl
theorem rd_free (most bound i : Int) (cT : Int) (cS : Int) (cK : Int) (cG : Int) (cQ : Int) (th : Int) (sl : Int) (gn : Int) (cl : Bool) (no : Int) (T : Int) (S : Int) (K : Int) (G : Int) (Q : Int) (l : Nat) (c : Nat) (tk : Int) (ts : Int) (to : Int) (told : Int) (tnew : Int) (td : Bool) (many : Int) (ws : List Int) : (rdE (emA 18 most bound i ([.i cT, .i cS, .i cK, .i cG, .i cQ, .i th, .i sl, .i gn, .b cl, .i no, .i T, .i S, .i K, .i G, .i Q, .n l, .n c, .i tk, .i ts, .i to, .i told, .i tnew, .b td, .i many, .ws ws]))).get = (Tree.br (decide (i < bound)) ((so_free ([.i cT, .i cS, .i cK, .i cG, .i cQ, .i th, .i sl, .i gn, .b cl, .i no, .i T, .i S, .i K, .i G, .i Q, .n l, .n c, .i tk, .i ts, .i to, .i told, .i tnew, .b td, .i many, .ws ws])).bind fun r => .leaf (.normal, emA r.1 most bound (IntKind.i64.wrap (i + 1)) r.2)) .bad).get := by kernel_rfl
theorem rd_later (most bound i : Int) (cT : Int) (cS : Int) (cK : Int) (cG : Int) (cQ : Int) (th : Int) (sl : Int) (gn : Int) (cl : Bool) (no : Int) (lslot : Int) (ls : Int) (lstate : Int) (llooked : Bool) (lend : Bool) (T : Int) (S : Int) (K : Int) (G : Int) (Q : Int) (l : Nat) (c : Nat) (tk : Int) (ts : Int) (to : Int) (told : Int) (tnew : Int) (td : Bool) (many : Int) (ws : List Int) : (rdE (emA 19 most bound i ([.i cT, .i cS, .i cK, .i cG, .i cQ, .i th, .i sl, .i gn, .b cl, .i no, .i lslot, .i ls, .i lstate, .b llooked, .b lend, .i T, .i S, .i K, .i G, .i Q, .n l, .n c, .i tk, .i ts, .i to, .i told, .i tnew, .b td, .i many, .ws ws]))).get = (Tree.br (decide (i < bound)) ((so_later ([.i cT, .i cS, .i cK, .i cG, .i cQ, .i th, .i sl, .i gn, .b cl, .i no, .i lslot, .i ls, .i lstate, .b llooked, .b lend, .i T, .i S, .i K, .i G, .i Q, .n l, .n c, .i tk, .i ts, .i to, .i told, .i tnew, .b td, .i many, .ws ws])).bind fun r => .leaf (.normal, emA r.1 most bound (IntKind.i64.wrap (i + 1)) r.2)) .bad).get := by kernel_rfl
theorem rd_done (most bound i : Int) (no : Int) (T : Int) (S : Int) (K : Int) (G : Int) (Q : Int) (l : Nat) (c : Nat) (tk : Int) (ts : Int) (to : Int) (told : Int) (tnew : Int) (td : Bool) (many : Int) (ws : List Int) : (rdE (emA 20 most bound i ([.i no, .i T, .i S, .i K, .i G, .i Q, .n l, .n c, .i tk, .i ts, .i to, .i told, .i tnew, .b td, .i many, .ws ws]))).get = (Tree.br (decide (i < bound)) (.leaf (.ret, .n 0 :: .i i :: ([.i no, .i T, .i S, .i K, .i G, .i Q, .n l, .n c, .i tk, .i ts, .i to, .i told, .i tnew, .b td, .i many, .ws ws]))) .bad).get := by kernel_rfl
end Go.Proofs.YtfccbghmagohaaaGreat.Bound
end

section
namespace Go.Proofs.YtfccbghmagohaaaGreat.Bound
open Go.Proofs.YtfccbghmagohaaaGreat.Ev Go.Proofs.YtfccbghmagohaaaGreat.ChartMath
set_option linter.unusedVariables false
set_option linter.unusedSimpArgs false
theorem rs_enter (most bound i : Int) (x : List Atom) (r : Nat × List Atom) (h : (so_enter x).get = some r) (hi : i < bound) : (rdE (emA 0 most bound i x)).get = some (.normal, emA r.1 most bound (IntKind.i64.wrap (i + 1)) r.2) := by
  have h' := h
  unfold so_enter at h
  split at h
  · rw [rd_enter, Tree.get_br, if_pos (decide_eq_true hi), Tree.get_bind, h']; rfl
  · cases h
theorem rs_number (most bound i : Int) (x : List Atom) (r : Nat × List Atom) (h : (so_number x).get = some r) (hi : i < bound) : (rdE (emA 1 most bound i x)).get = some (.normal, emA r.1 most bound (IntKind.i64.wrap (i + 1)) r.2) := by
  have h' := h
  unfold so_number at h
  split at h
  · rw [rd_number, Tree.get_br, if_pos (decide_eq_true hi), Tree.get_bind, h']; rfl
  · cases h
theorem rs_agedL (most bound i : Int) (x : List Atom) (r : Nat × List Atom) (h : (so_agedL x).get = some r) (hi : i < bound) : (rdE (emA 2 most bound i x)).get = some (.normal, emA r.1 most bound (IntKind.i64.wrap (i + 1)) r.2) := by
  have h' := h
  unfold so_agedL at h
  split at h
  · rw [rd_agedL, Tree.get_br, if_pos (decide_eq_true hi), Tree.get_bind, h']; rfl
  · cases h
theorem rs_agedS (most bound i : Int) (x : List Atom) (r : Nat × List Atom) (h : (so_agedS x).get = some r) (hi : i < bound) : (rdE (emA 3 most bound i x)).get = some (.normal, emA r.1 most bound (IntKind.i64.wrap (i + 1)) r.2) := by
  have h' := h
  unfold so_agedS at h
  split at h
  · rw [rd_agedS, Tree.get_br, if_pos (decide_eq_true hi), Tree.get_bind, h']; rfl
  · cases h
theorem rs_die (most bound i : Int) (x : List Atom) (r : Nat × List Atom) (h : (so_die x).get = some r) (hi : i < bound) : (rdE (emA 4 most bound i x)).get = some (.normal, emA r.1 most bound (IntKind.i64.wrap (i + 1)) r.2) := by
  have h' := h
  unfold so_die at h
  split at h
  · rw [rd_die, Tree.get_br, if_pos (decide_eq_true hi), Tree.get_bind, h']; rfl
  · cases h
theorem rs_dead (most bound i : Int) (x : List Atom) (r : Nat × List Atom) (h : (so_dead x).get = some r) (hi : i < bound) : (rdE (emA 5 most bound i x)).get = some (.normal, emA r.1 most bound (IntKind.i64.wrap (i + 1)) r.2) := by
  have h' := h
  unfold so_dead at h
  split at h
  · rw [rd_dead, Tree.get_br, if_pos (decide_eq_true hi), Tree.get_bind, h']; rfl
  · cases h
theorem rs_tick (most bound i : Int) (x : List Atom) (r : Nat × List Atom) (h : (so_tick x).get = some r) (hi : i < bound) : (rdE (emA 6 most bound i x)).get = some (.normal, emA r.1 most bound (IntKind.i64.wrap (i + 1)) r.2) := by
  have h' := h
  unfold so_tick at h
  split at h
  · rw [rd_tick, Tree.get_br, if_pos (decide_eq_true hi), Tree.get_bind, h']; rfl
  · cases h
theorem rs_note (most bound i : Int) (x : List Atom) (r : Nat × List Atom) (h : (so_note x).get = some r) (hi : i < bound) : (rdE (emA 7 most bound i x)).get = some (.normal, emA r.1 most bound (IntKind.i64.wrap (i + 1)) r.2) := by
  have h' := h
  unfold so_note at h
  split at h
  · rw [rd_note, Tree.get_br, if_pos (decide_eq_true hi), Tree.get_bind, h']; rfl
  · cases h
theorem rs_retired (most bound i : Int) (x : List Atom) (r : Nat × List Atom) (h : (so_retired x).get = some r) (hi : i < bound) : (rdE (emA 8 most bound i x)).get = some (.normal, emA r.1 most bound (IntKind.i64.wrap (i + 1)) r.2) := by
  have h' := h
  unfold so_retired at h
  split at h
  · rw [rd_retired, Tree.get_br, if_pos (decide_eq_true hi), Tree.get_bind, h']; rfl
  · cases h
theorem rs_grace (most bound i : Int) (x : List Atom) (r : Nat × List Atom) (h : (so_grace x).get = some r) (hi : i < bound) : (rdE (emA 9 most bound i x)).get = some (.normal, emA r.1 most bound (IntKind.i64.wrap (i + 1)) r.2) := by
  have h' := h
  unfold so_grace at h
  split at h
  · rw [rd_grace, Tree.get_br, if_pos (decide_eq_true hi), Tree.get_bind, h']; rfl
  · cases h
theorem rs_keys (most bound i : Int) (x : List Atom) (r : Nat × List Atom) (h : (so_keys x).get = some r) (hi : i < bound) : (rdE (emA 10 most bound i x)).get = some (.normal, emA r.1 most bound (IntKind.i64.wrap (i + 1)) r.2) := by
  have h' := h
  unfold so_keys at h
  split at h
  · rw [rd_keys, Tree.get_br, if_pos (decide_eq_true hi), Tree.get_bind, h']; rfl
  · cases h
theorem rs_unmark (most bound i : Int) (x : List Atom) (r : Nat × List Atom) (h : (so_unmark x).get = some r) (hi : i < bound) : (rdE (emA 11 most bound i x)).get = some (.normal, emA r.1 most bound (IntKind.i64.wrap (i + 1)) r.2) := by
  have h' := h
  unfold so_unmark at h
  split at h
  · rw [rd_unmark, Tree.get_br, if_pos (decide_eq_true hi), Tree.get_bind, h']; rfl
  · cases h
theorem rs_past (most bound i : Int) (x : List Atom) (r : Nat × List Atom) (h : (so_past x).get = some r) (hi : i < bound) : (rdE (emA 12 most bound i x)).get = some (.normal, emA r.1 most bound (IntKind.i64.wrap (i + 1)) r.2) := by
  have h' := h
  unfold so_past at h
  split at h
  · rw [rd_past, Tree.get_br, if_pos (decide_eq_true hi), Tree.get_bind, h']; rfl
  · cases h
theorem rs_others (most bound i : Int) (x : List Atom) (r : Nat × List Atom) (h : (so_others x).get = some r) (hi : i < bound) : (rdE (emA 13 most bound i x)).get = some (.normal, emA r.1 most bound (IntKind.i64.wrap (i + 1)) r.2) := by
  have h' := h
  unfold so_others at h
  split at h
  · rw [rd_others, Tree.get_br, if_pos (decide_eq_true hi), Tree.get_bind, h']; rfl
  · cases h
theorem rs_part (most bound i : Int) (x : List Atom) (r : Nat × List Atom) (h : (so_part x).get = some r) (hi : i < bound) : (rdE (emA 14 most bound i x)).get = some (.normal, emA r.1 most bound (IntKind.i64.wrap (i + 1)) r.2) := by
  have h' := h
  unfold so_part at h
  split at h
  · rw [rd_part, Tree.get_br, if_pos (decide_eq_true hi), Tree.get_bind, h']; rfl
  · cases h
theorem rs_close (most bound i : Int) (x : List Atom) (r : Nat × List Atom) (h : (so_close x).get = some r) (hi : i < bound) : (rdE (emA 15 most bound i x)).get = some (.normal, emA r.1 most bound (IntKind.i64.wrap (i + 1)) r.2) := by
  have h' := h
  unfold so_close at h
  split at h
  · rw [rd_close, Tree.get_br, if_pos (decide_eq_true hi), Tree.get_bind, h']; rfl
  · cases h
theorem rs_closed (most bound i : Int) (x : List Atom) (r : Nat × List Atom) (h : (so_closed x).get = some r) (hi : i < bound) : (rdE (emA 16 most bound i x)).get = some (.normal, emA r.1 most bound (IntKind.i64.wrap (i + 1)) r.2) := by
  have h' := h
  unfold so_closed at h
  split at h
  · rw [rd_closed, Tree.get_br, if_pos (decide_eq_true hi), Tree.get_bind, h']; rfl
  · cases h
theorem rs_nought (most bound i : Int) (x : List Atom) (r : Nat × List Atom) (h : (so_nought x).get = some r) (hi : i < bound) : (rdE (emA 17 most bound i x)).get = some (.normal, emA r.1 most bound (IntKind.i64.wrap (i + 1)) r.2) := by
  have h' := h
  unfold so_nought at h
  split at h
  · rw [rd_nought, Tree.get_br, if_pos (decide_eq_true hi), Tree.get_bind, h']; rfl
  · cases h
theorem rs_free (most bound i : Int) (x : List Atom) (r : Nat × List Atom) (h : (so_free x).get = some r) (hi : i < bound) : (rdE (emA 18 most bound i x)).get = some (.normal, emA r.1 most bound (IntKind.i64.wrap (i + 1)) r.2) := by
  have h' := h
  unfold so_free at h
  split at h
  · rw [rd_free, Tree.get_br, if_pos (decide_eq_true hi), Tree.get_bind, h']; rfl
  · cases h
theorem rs_later (most bound i : Int) (x : List Atom) (r : Nat × List Atom) (h : (so_later x).get = some r) (hi : i < bound) : (rdE (emA 19 most bound i x)).get = some (.normal, emA r.1 most bound (IntKind.i64.wrap (i + 1)) r.2) := by
  have h' := h
  unfold so_later at h
  split at h
  · rw [rd_later, Tree.get_br, if_pos (decide_eq_true hi), Tree.get_bind, h']; rfl
  · cases h
theorem rs_all {k : Nat} {most bound i : Int} {x : List Atom} {r : Nat × List Atom} (h : stepK (k, x) = some r) (hk : k ≠ 20) (hi : i < bound) : (rdE (emA k most bound i x)).get = some (.normal, emA r.1 most bound (IntKind.i64.wrap (i + 1)) r.2) := by
  unfold stepK at h
  match k, hk, h with
  | 0, hk, h => exact rs_enter most bound i x r h hi
  | 1, hk, h => exact rs_number most bound i x r h hi
  | 2, hk, h => exact rs_agedL most bound i x r h hi
  | 3, hk, h => exact rs_agedS most bound i x r h hi
  | 4, hk, h => exact rs_die most bound i x r h hi
  | 5, hk, h => exact rs_dead most bound i x r h hi
  | 6, hk, h => exact rs_tick most bound i x r h hi
  | 7, hk, h => exact rs_note most bound i x r h hi
  | 8, hk, h => exact rs_retired most bound i x r h hi
  | 9, hk, h => exact rs_grace most bound i x r h hi
  | 10, hk, h => exact rs_keys most bound i x r h hi
  | 11, hk, h => exact rs_unmark most bound i x r h hi
  | 12, hk, h => exact rs_past most bound i x r h hi
  | 13, hk, h => exact rs_others most bound i x r h hi
  | 14, hk, h => exact rs_part most bound i x r h hi
  | 15, hk, h => exact rs_close most bound i x r h hi
  | 16, hk, h => exact rs_closed most bound i x r h hi
  | 17, hk, h => exact rs_nought most bound i x r h hi
  | 18, hk, h => exact rs_free most bound i x r h hi
  | 19, hk, h => exact rs_later most bound i x r h hi
  | 20, hk, h => exact absurd rfl hk
  | n + 21, hk, h => simp [soL, nthD] at h
theorem rs_done {most bound i : Int} {x : List Atom} {r : Nat × List Atom} (h : (so_done x).get = some r) (hi : i < bound) : (rdE (emA 20 most bound i x)).get = some (.ret, .n 0 :: .i i :: x) := by
  unfold so_done at h
  split at h
  · rw [rd_done, Tree.get_br, if_pos (decide_eq_true hi)]; rfl
  · cases h
/-- A sweep that has ended, and its memory. -/
structure EndR where
  e : Int
  T : Int
  S : Int
  K : Int
  G : Int
  Q : Int
  l : Nat
  c : Nat
  s : MS
def EndR.at (v : EndR) : List Atom := .i v.e :: mA v.T v.S v.K v.G v.Q v.l v.c v.s
def asE : List Atom → Option EndR
  | [.i e, .i T, .i S, .i K, .i G, .i Q, .n l, .n c, .i tk, .i ts, .i to, .i told, .i tnew, .b td, .i many, .ws ws] => some ⟨e, T, S, K, G, Q, l, c, ws, many, tk, ts, to, told, tnew, td⟩
  | _ => none
theorem asE_at {y : List Atom} {v : EndR} (h : asE y = some v) : v.at = y ∧ (so_done y).get = some (20, y) := by
  unfold asE at h
  split at h
  · cases h; exact ⟨rfl, rfl⟩
  · cases h
def runV (f : Nat) (st : Nat × List Atom) : Option (Nat × EndR) := match runK f st with
  | some (n, y) => match asE y with
    | some v => some (n, v)
    | none => none
  | none => none
/-- A value that is not reckoned out. -/
noncomputable def lockP {α : Type} (v : α) : { w : α // w = v } := Classical.choice ⟨⟨v, rfl⟩⟩
/-- How many steps there were; the error; the memory. -/
structure ER where
  n : Int
  e : Int
  s : MS
def asR (T S K G Q : Int) (l c : Nat) (o : Option (Nat × EndR)) : Option ER := match o with
  | some (n, v) => cond (decide (v.T = T ∧ v.S = S ∧ v.K = K ∧ v.G = G ∧ v.Q = Q ∧ v.l = l ∧ v.c = c)) (some ⟨n, v.e, v.s⟩) none
  | none => none
noncomputable def runL (T S K G Q : Int) (l c : Nat) (f : Nat) (x : List Atom) : Option ER := (lockP (asR T S K G Q l c (runV f (0, x)))).1
theorem runL_is (T S K G Q : Int) (l c : Nat) (f : Nat) (x : List Atom) : runL T S K G Q l c f x = asR T S K G Q l c (runV f (0, x)) := (lockP _).2
def dfR : ER := ⟨0, 0, [], 0, 0, 0, 0, 0, 0, false⟩
noncomputable def endsO : List Atom → Tree (Ex × List Atom)
  | .n k :: .i most :: .i bound :: .i i :: .i cT :: .i cS :: .i cK :: .i cG :: .i cQ :: .i th :: .i sl :: .i gn :: .b cl :: .i no :: .i eslot :: .i es :: .i eh :: .n el :: .n ec :: .b etakes :: .b edone :: .i eno :: .i eword :: .ws est :: .i T :: .i S :: .i K :: .i G :: .i Q :: .n l :: .n c :: .i tk :: .i ts :: .i to :: .i told :: .i tnew :: .b td :: .i many :: .ws ws :: [] => .br (decide (k = 0 ∧ 0 ≤ i ∧ bound ≤ 100000)) (.br (runL T S K G Q l c (bound - i).toNat (.i cT :: .i cS :: .i cK :: .i cG :: .i cQ :: .i th :: .i sl :: .i gn :: .b cl :: .i no :: .i eslot :: .i es :: .i eh :: .n el :: .n ec :: .b etakes :: .b edone :: .i eno :: .i eword :: .ws est :: .i T :: .i S :: .i K :: .i G :: .i Q :: .n l :: .n c :: .i tk :: .i ts :: .i to :: .i told :: .i tnew :: .b td :: .i many :: .ws ws :: [])).isSome (.leaf (.ret, .n 0 :: .i (i + ((runL T S K G Q l c (bound - i).toNat (.i cT :: .i cS :: .i cK :: .i cG :: .i cQ :: .i th :: .i sl :: .i gn :: .b cl :: .i no :: .i eslot :: .i es :: .i eh :: .n el :: .n ec :: .b etakes :: .b edone :: .i eno :: .i eword :: .ws est :: .i T :: .i S :: .i K :: .i G :: .i Q :: .n l :: .n c :: .i tk :: .i ts :: .i to :: .i told :: .i tnew :: .b td :: .i many :: .ws ws :: [])).getD dfR).n) :: .i ((runL T S K G Q l c (bound - i).toNat (.i cT :: .i cS :: .i cK :: .i cG :: .i cQ :: .i th :: .i sl :: .i gn :: .b cl :: .i no :: .i eslot :: .i es :: .i eh :: .n el :: .n ec :: .b etakes :: .b edone :: .i eno :: .i eword :: .ws est :: .i T :: .i S :: .i K :: .i G :: .i Q :: .n l :: .n c :: .i tk :: .i ts :: .i to :: .i told :: .i tnew :: .b td :: .i many :: .ws ws :: [])).getD dfR).e :: mA T S K G Q l c ((runL T S K G Q l c (bound - i).toNat (.i cT :: .i cS :: .i cK :: .i cG :: .i cQ :: .i th :: .i sl :: .i gn :: .b cl :: .i no :: .i eslot :: .i es :: .i eh :: .n el :: .n ec :: .b etakes :: .b edone :: .i eno :: .i eword :: .ws est :: .i T :: .i S :: .i K :: .i G :: .i Q :: .n l :: .n c :: .i tk :: .i ts :: .i to :: .i told :: .i tnew :: .b td :: .i many :: .ws ws :: [])).getD dfR).s)) .bad) .bad
  | _ => .bad
theorem runV_step {f k : Nat} {x : List Atom} {n : Nat} {v : EndR} (h : runV f (k, x) = some (n, v)) : ∃ g, f = g + 1 ∧ ((k = 20 ∧ n = 0 ∧ asE x = some v) ∨ (k ≠ 20 ∧ ∃ r m, n = m + 1 ∧ stepK (k, x) = some r ∧ runV g r = some (m, v))) := by
  cases f with
  | zero => simp [runV, runK] at h
  | succ g =>
    refine ⟨g, rfl, ?_⟩
    unfold runV runK at h
    by_cases e : k = 20
    · subst e
      left
      simp only [Nat.beq_refl, cond_true] at h
      cases ha : asE x with
      | none => simp [ha] at h
      | some u => simp [ha] at h; simp [h]
    · right
      refine ⟨e, ?_⟩
      have hb : Nat.beq k 20 = false := by rw [← Bool.not_eq_true]; intro hh; exact e (Nat.eq_of_beq_eq_true hh)
      simp only [hb, cond_false] at h
      cases hs : stepK (k, x) with
      | none => simp [hs] at h
      | some r =>
        simp only [hs] at h
        cases hr : runK g r with
        | none => simp [hr] at h
        | some p =>
          obtain ⟨m, y⟩ := p
          simp only [hr] at h
          cases ha : asE y with
          | none => simp [ha] at h
          | some u =>
            simp [ha] at h
            refine ⟨r, m, h.1.symm, rfl, ?_⟩
            unfold runV
            simp [hr, ha, h.2]
theorem ends_iter (most bound : Int) : ∀ (f k : Nat) (i : Int) (x : List Atom) (n : Nat) (v : EndR), (bound - i).toNat = f → 0 ≤ i → bound ≤ 100000 → runV f (k, x) = some (n, v) → ∃ j, iterR rdE j (emA k most bound i x) = some (.ret, .n 0 :: .i (i + (n : Int)) :: v.at)
  | f, k, i, x, n, v, hf, h0, h1, h => by
    obtain ⟨g, rfl, hc⟩ := runV_step h
    have hi : i < bound := by omega
    rcases hc with ⟨rfl, rfl, ha⟩ | ⟨hk, r, m, rfl, hs, hr⟩
    · refine ⟨1, ?_⟩
      obtain ⟨e1, e2⟩ := asE_at ha
      simp only [iterR, rs_done (most := most) e2 hi]
      rw [e1]
      simp
    · have hw : IntKind.i64.wrap (i + 1) = i + 1 := by rw [IntKind.wrap_i64]; omega
      obtain ⟨j, hj⟩ := ends_iter most bound g r.1 (i + 1) r.2 m v (by omega) (by omega) h1 hr
      refine ⟨j + 1, ?_⟩
      simp only [iterR, rs_all (most := most) hs hk hi]
      rw [hw, hj]
      simp only [Option.some.injEq, Prod.mk.injEq, true_and, List.cons.injEq, Atom.i.injEq, and_true]
      omega
theorem ends_step (x : List Atom) (r : Ex × List Atom) (h : (endsO x).get = some r) : ∃ n, iterR rdE n x = some r := by
  unfold endsO at h
  simp only [runL_is] at h
  split at h
  · rename_i k most bound i cT cS cK cG cQ th sl gn cl no eslot es eh el ec etakes edone eno eword est T S K G Q l c tk ts to told tnew td many ws
    obtain ⟨hg, g2⟩ := get_br h
    obtain ⟨hk0, h0, h1⟩ := of_decide_eq_true hg
    obtain ⟨hs, g3⟩ := get_br g2
    clear h g2 hg
    subst hk0
    generalize hv : runV (bound - i).toNat (0, .i cT :: .i cS :: .i cK :: .i cG :: .i cQ :: .i th :: .i sl :: .i gn :: .b cl :: .i no :: .i eslot :: .i es :: .i eh :: .n el :: .n ec :: .b etakes :: .b edone :: .i eno :: .i eword :: .ws est :: .i T :: .i S :: .i K :: .i G :: .i Q :: .n l :: .n c :: .i tk :: .i ts :: .i to :: .i told :: .i tnew :: .b td :: .i many :: .ws ws :: []) = o at g3 hs
    cases o with
    | none => cases hs
    | some p =>
      obtain ⟨n, v⟩ := p
      obtain ⟨j, hj⟩ := ends_iter most bound _ 0 i _ n v rfl h0 h1 hv
      unfold asR at g3 hs
      simp only at g3 hs
      cases hq : decide (v.T = T ∧ v.S = S ∧ v.K = K ∧ v.G = G ∧ v.Q = Q ∧ v.l = l ∧ v.c = c) with
      | false => rw [hq] at hs; cases hs
      | true =>
        obtain ⟨e1, e2, e3, e4, e5, e6, e7⟩ := of_decide_eq_true hq
        rw [hq] at g3
        simp only [cond_true, Tree.get_leaf, Option.some.injEq, Option.getD_some] at g3
        refine ⟨j, ?_⟩
        rw [← g3]
        refine hj.trans ?_
        unfold EndR.at
        rw [e1, e2, e3, e4, e5, e6, e7]
  · cases h
theorem bodyEnds_is : bodyOf 16 = some ((bodyOf 16).getD .skip) := by kernel_rfl
noncomputable def sumsEL : Sums := withLoop sumsS1 16 2 (tmsum 5 EM endsO)
theorem EM_heads : headsOk 5 EM.heads = true := by kernel_rfl
theorem keysEnds_is : keysOk (loopsIn ((bodyOf 16).getD .skip)) = true := by kernel_rfl
theorem sumsEL_ok : SumsOk sumsEL := loop_tmsum (fuel := 60) (F := EM) (out := endsO) sumsS1_ok bodyEnds_is keysEnds_is EM_heads ends_step
/-- The call: from where it is entered. -/
def newC (f : Pat) (e : Pat) : CPat := .vals [f, .nilFunc, i6, i6, i6, i6, u6, i6, i6, i6, i6, .bool, u6, u6, u6, e, .nilPtr, .nilPtr, .nilPtr, i6]
def EF : FForm := ⟨[.ptr 0 0 none, .ptr 3 0 none, i6], (0, 92, newC (.func 38 [.ptr 0 0 none] []) (.ptr 1 0 none)) :: swSub 0 0 1 ++ [(3, 111, memK 4), (4, 22, .ints .u64)], [endP 20 [(0, i6)] 1]⟩
def EFd : FForm := ⟨[.ptr 0 0 none, .ptr 1 0 none, i6], [(0, 92, newC .nilFunc .nilPtr), (1, 111, memK 2), (2, 22, .ints .u64)], [⟨[(0, i6)], 1, [swC 20 0 1, (1, 111, memK 2), (2, 22, .ints .u64)], 3, [0]⟩]⟩
set_option maxRecDepth 100000 in
noncomputable def endFo : List Atom → Tree (Nat × List Atom)
  | .i most :: .i cT :: .i cS :: .i cK :: .i cG :: .i cQ :: .i th :: .i sl :: .i gn :: .i at_ :: .b cl :: .i w :: .i r :: .i n :: .i no :: .i eslot :: .i es :: .i eh :: .n el :: .n ec :: .b etakes :: .b edone :: .i eno :: .i eword :: .ws est :: .i T :: .i S :: .i K :: .i G :: .i Q :: .n l :: .n c :: .i tk :: .i ts :: .i to :: .i told :: .i tnew :: .b td :: .i many :: .ws ws :: [] => .br (decide ((0 : Nat) = 0 ∧ 0 ≤ (0 : Int) ∧ most ≤ 100000)) (.br (runL T S K G Q l c (most - 0).toNat (.i cT :: .i cS :: .i cK :: .i cG :: .i cQ :: .i th :: .i sl :: .i gn :: .b cl :: .i no :: .i eslot :: .i es :: .i eh :: .n el :: .n ec :: .b etakes :: .b edone :: .i eno :: .i eword :: .ws est :: .i T :: .i S :: .i K :: .i G :: .i Q :: .n l :: .n c :: .i tk :: .i ts :: .i to :: .i told :: .i tnew :: .b td :: .i many :: .ws ws :: [])).isSome (.leaf (0, .i (0 + ((runL T S K G Q l c (most - 0).toNat (.i cT :: .i cS :: .i cK :: .i cG :: .i cQ :: .i th :: .i sl :: .i gn :: .b cl :: .i no :: .i eslot :: .i es :: .i eh :: .n el :: .n ec :: .b etakes :: .b edone :: .i eno :: .i eword :: .ws est :: .i T :: .i S :: .i K :: .i G :: .i Q :: .n l :: .n c :: .i tk :: .i ts :: .i to :: .i told :: .i tnew :: .b td :: .i many :: .ws ws :: [])).getD dfR).n) :: .i ((runL T S K G Q l c (most - 0).toNat (.i cT :: .i cS :: .i cK :: .i cG :: .i cQ :: .i th :: .i sl :: .i gn :: .b cl :: .i no :: .i eslot :: .i es :: .i eh :: .n el :: .n ec :: .b etakes :: .b edone :: .i eno :: .i eword :: .ws est :: .i T :: .i S :: .i K :: .i G :: .i Q :: .n l :: .n c :: .i tk :: .i ts :: .i to :: .i told :: .i tnew :: .b td :: .i many :: .ws ws :: [])).getD dfR).e :: mA T S K G Q l c ((runL T S K G Q l c (most - 0).toNat (.i cT :: .i cS :: .i cK :: .i cG :: .i cQ :: .i th :: .i sl :: .i gn :: .b cl :: .i no :: .i eslot :: .i es :: .i eh :: .n el :: .n ec :: .b etakes :: .b edone :: .i eno :: .i eword :: .ws est :: .i T :: .i S :: .i K :: .i G :: .i Q :: .n l :: .n c :: .i tk :: .i ts :: .i to :: .i told :: .i tnew :: .b td :: .i many :: .ws ws :: [])).getD dfR).s)) .bad) .bad
  | _ => .bad
def endFd : List Atom → Tree (Nat × List Atom)
  | [.i most, .i cT, .i cS, .i cK, .i cG, .i cQ, .i th, .i sl, .i gn, .i at_, .b cl, .i w, .i r, .i n, .i e, .i T, .i S, .i K, .i G, .i Q, .n l, .n c, .i tk, .i ts, .i to, .i told, .i tnew, .b td, .i many, .ws ws] => .br (decide (0 < most)) (.leaf (0, [.i 0, .i e, .i T, .i S, .i K, .i G, .i Q, .n l, .n c, .i tk, .i ts, .i to, .i told, .i tnew, .b td, .i many, .ws ws])) (.leaf (0, [.i most, .i e, .i T, .i S, .i K, .i G, .i Q, .n l, .n c, .i tk, .i ts, .i to, .i told, .i tnew, .b td, .i many, .ws ws]))
  | _ => .bad
theorem endF_enter (most : Int) (cT : Int) (cS : Int) (cK : Int) (cG : Int) (cQ : Int) (th : Int) (sl : Int) (gn : Int) (at_ : Int) (cl : Bool) (w : Int) (r : Int) (n : Int) (no : Int) (eslot : Int) (es : Int) (eh : Int) (el : Nat) (ec : Nat) (etakes : Bool) (edone : Bool) (eno : Int) (eword : Int) (est : List Int) (T : Int) (S : Int) (K : Int) (G : Int) (Q : Int) (l : Nat) (c : Nat) (tk : Int) (ts : Int) (to : Int) (told : Int) (tnew : Int) (td : Bool) (many : Int) (ws : List Int) : (endF (ev sumsEL 60 16) EF (.i most :: .i cT :: .i cS :: .i cK :: .i cG :: .i cQ :: .i th :: .i sl :: .i gn :: .i at_ :: .b cl :: .i w :: .i r :: .i n :: .i no :: .i eslot :: .i es :: .i eh :: .n el :: .n ec :: .b etakes :: .b edone :: .i eno :: .i eword :: .ws est :: .i T :: .i S :: .i K :: .i G :: .i Q :: .n l :: .n c :: .i tk :: .i ts :: .i to :: .i told :: .i tnew :: .b td :: .i many :: .ws ws :: [])).get = (endFo (.i most :: .i cT :: .i cS :: .i cK :: .i cG :: .i cQ :: .i th :: .i sl :: .i gn :: .i at_ :: .b cl :: .i w :: .i r :: .i n :: .i no :: .i eslot :: .i es :: .i eh :: .n el :: .n ec :: .b etakes :: .b edone :: .i eno :: .i eword :: .ws est :: .i T :: .i S :: .i K :: .i G :: .i Q :: .n l :: .n c :: .i tk :: .i ts :: .i to :: .i told :: .i tnew :: .b td :: .i many :: .ws ws :: [])).get := by kernel_rfl
theorem endF_done (most cT cS cK cG cQ th sl gn at_ : Int) (cl : Bool) (w r n e T S K G Q : Int) (l c : Nat) (tk ts to told tnew : Int) (td : Bool) (many : Int) (ws : List Int) : (endF (ev sumsS1 60 16) EFd [.i most, .i cT, .i cS, .i cK, .i cG, .i cQ, .i th, .i sl, .i gn, .i at_, .b cl, .i w, .i r, .i n, .i e, .i T, .i S, .i K, .i G, .i Q, .n l, .n c, .i tk, .i ts, .i to, .i told, .i tnew, .b td, .i many, .ws ws]).get = (endFd [.i most, .i cT, .i cS, .i cK, .i cG, .i cQ, .i th, .i sl, .i gn, .i at_, .b cl, .i w, .i r, .i n, .i e, .i T, .i S, .i K, .i G, .i Q, .n l, .n c, .i tk, .i ts, .i to, .i told, .i tnew, .b td, .i many, .ws ws]).get := by kernel_rfl
theorem endFo_st (x : List Atom) (r : Nat × List Atom) (h : (endFo x).get = some r) : (endF (ev sumsEL 60 16) EF x).get = some r := by
  have h' := h
  unfold endFo at h
  split at h
  · rw [endF_enter]; exact h'
  · cases h
theorem endFd_st (x : List Atom) (r : Nat × List Atom) (h : (endFd x).get = some r) : (endF (ev sumsS1 60 16) EFd x).get = some r := by
  have h' := h
  unfold endFd at h
  split at h
  · rw [endF_done]; exact h'
  · cases h
noncomputable def endS : Sum := canon (orSum (fun args H => (matF EF args H).isSome) (tsum EF endFo) (tsum EFd endFd))
noncomputable def withEnds (sums : Sums) : Sums := withCall sums 16 endS
theorem withEnds_ok {sums : Sums} (h : SumsOk sums) : SumsOk (withEnds sums) := withCall_ok h (canon_ok (orSum_ok (tsum_ok (ev_sound sumsEL_ok 60 _) endFo_st) (tsum_ok (ev_sound sumsS1_ok 60 _) endFd_st))) (by kernel_rfl)
end Go.Proofs.YtfccbghmagohaaaGreat.Bound
end
