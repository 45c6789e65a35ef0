/- Two sweeps of one ticket: a sweep's own atoms, by kinds; a sweep that goes on alone, from any kind on. No condition. A sweep that goes on alone, from any kind on: what the call comes to. No condition. -/
import Derived.Test.YtfccbghmagohaaaGreatEvSelQ
import Derived.Test.YtfccbghmagohaaaGreatSwPE
section
namespace Go.Proofs.YtfccbghmagohaaaGreat.Bound
open Go.Proofs.YtfccbghmagohaaaGreat.Ev Go.Proofs.YtfccbghmagohaaaGreat.ChartMath
set_option linter.unusedVariables false
set_option linter.unusedSimpArgs false
/-- A sweep's own atoms, by kinds. -/
def ow (k : Nat) (u : Nat → Int) (bo : Nat → Bool) (na : Nat → Nat) (wl : Nat → List Int) : List Atom := nthD [] [
  [.i (u 0), .i (u 1), .i (u 2), .i (u 3), .i (u 4), .i (u 5), .i (u 6), .i (u 7), .b (bo 0), .i (u 8), .i (u 9), .i (u 10), .i (u 11), .n (na 0), .n (na 1), .b (bo 1), .b (bo 2), .i (u 12), .i (u 13), .ws (wl 0)],
  [.i (u 0), .i (u 1), .i (u 2), .i (u 3), .i (u 4), .i (u 5), .i (u 6), .i (u 7), .b (bo 0), .i (u 8)],
  [.i (u 0), .i (u 1), .i (u 2), .i (u 3), .i (u 4), .i (u 5), .i (u 6), .i (u 7), .b (bo 0), .i (u 8), .i (u 9), .i (u 10), .b (bo 1), .i (u 11), .i (u 12), .i (u 13)],
  [.i (u 0), .i (u 1), .i (u 2), .i (u 3), .i (u 4), .i (u 5), .i (u 6), .i (u 7), .b (bo 0), .i (u 8), .i (u 9), .i (u 10), .b (bo 1), .i (u 11), .i (u 12), .i (u 13)],
  [.i (u 0), .i (u 1), .i (u 2), .i (u 3), .i (u 4), .i (u 5), .i (u 6), .i (u 7), .b (bo 0), .i (u 8)],
  [.i (u 0), .i (u 1), .i (u 2), .i (u 3), .i (u 4), .i (u 5), .i (u 6), .i (u 7), .b (bo 0), .i (u 8), .i (u 9)],
  [.i (u 0), .i (u 1), .i (u 2), .i (u 3), .i (u 4), .i (u 5), .i (u 6), .i (u 7), .b (bo 0), .i (u 8)],
  [.i (u 0), .i (u 1), .i (u 2), .i (u 3), .i (u 4), .i (u 5), .i (u 6), .i (u 7), .b (bo 0), .i (u 8), .i (u 9)],
  [.i (u 0), .i (u 1), .i (u 2), .i (u 3), .i (u 4), .i (u 5), .i (u 6), .i (u 7), .b (bo 0), .i (u 8)],
  [.i (u 0), .i (u 1), .i (u 2), .i (u 3), .i (u 4), .i (u 5), .i (u 6), .i (u 7), .b (bo 0), .i (u 8), .i (u 9), .i (u 10), .i (u 11), .b (bo 1)],
  [.i (u 0), .i (u 1), .i (u 2), .i (u 3), .i (u 4), .i (u 5), .i (u 6), .i (u 7), .i (u 8), .b (bo 0), .i (u 9), .i (u 10), .i (u 11), .i (u 12)],
  [.i (u 0), .i (u 1), .i (u 2), .i (u 3), .i (u 4), .i (u 5), .i (u 6), .i (u 7), .i (u 8), .b (bo 0), .i (u 9), .i (u 10), .i (u 11), .i (u 12), .i (u 13)],
  [.i (u 0), .i (u 1), .i (u 2), .i (u 3), .i (u 4), .i (u 5), .i (u 6), .i (u 7), .b (bo 0), .i (u 8)],
  [.i (u 0), .i (u 1), .i (u 2), .i (u 3), .i (u 4), .i (u 5), .i (u 6), .i (u 7), .i (u 8), .b (bo 0), .i (u 9), .i (u 10), .i (u 11), .i (u 12), .i (u 13)],
  [.i (u 0), .i (u 1), .i (u 2), .i (u 3), .i (u 4), .i (u 5), .i (u 6), .i (u 7), .i (u 8), .b (bo 0), .i (u 9), .i (u 10), .i (u 11), .i (u 12), .i (u 13), .i (u 14)],
  [.i (u 0), .i (u 1), .i (u 2), .i (u 3), .i (u 4), .i (u 5), .i (u 6), .i (u 7), .b (bo 0), .i (u 8)],
  [.i (u 0), .i (u 1), .i (u 2), .i (u 3), .i (u 4), .i (u 5), .i (u 6), .i (u 7), .b (bo 0), .i (u 8), .i (u 9)],
  [.i (u 0), .i (u 1), .i (u 2), .i (u 3), .i (u 4), .i (u 5), .i (u 6), .i (u 7), .b (bo 0), .i (u 8)],
  [.i (u 0), .i (u 1), .i (u 2), .i (u 3), .i (u 4), .i (u 5), .i (u 6), .i (u 7), .b (bo 0), .i (u 8)],
  [.i (u 0), .i (u 1), .i (u 2), .i (u 3), .i (u 4), .i (u 5), .i (u 6), .i (u 7), .b (bo 0), .i (u 8), .i (u 9), .i (u 10), .i (u 11), .b (bo 1), .b (bo 2)],
  [.i (u 0)]] k
theorem dec_enter {x : List Atom} {r : Nat × List Atom} (h : (so_enter x).get = some r) : ∃ u bo na wl T S K G Q l c s, x = ow 0 u bo na wl ++ mA T S K G Q l c s := by
  unfold so_enter at h
  split at h
  · rename_i cT cS cK cG cQ th sl gn cl no eslot es eh el ec etakes edone eno eword est T S K G Q l c tk ts to told tnew td many ws
    exact ⟨fun j => nthD 0 [cT, cS, cK, cG, cQ, th, sl, gn, no, eslot, es, eh, eno, eword] j, fun j => nthD false [cl, etakes, edone] j, fun j => nthD 0 [el, ec] j, fun j => nthD [] [est] j, T, S, K, G, Q, l, c, ⟨ws, many, tk, ts, to, told, tnew, td⟩, rfl⟩
  · cases h
theorem dec_number {x : List Atom} {r : Nat × List Atom} (h : (so_number x).get = some r) : ∃ u bo na wl T S K G Q l c s, x = ow 1 u bo na wl ++ mA T S K G Q l c s := by
  unfold so_number at h
  split at h
  · rename_i cT cS cK cG cQ th sl gn cl no T S K G Q l c tk ts to told tnew td many ws
    exact ⟨fun j => nthD 0 [cT, cS, cK, cG, cQ, th, sl, gn, no] j, fun j => nthD false [cl] j, fun j => nthD 0 [] j, fun j => nthD [] [] j, T, S, K, G, Q, l, c, ⟨ws, many, tk, ts, to, told, tnew, td⟩, rfl⟩
  · cases h
theorem dec_agedL {x : List Atom} {r : Nat × List Atom} (h : (so_agedL x).get = some r) : ∃ u bo na wl T S K G Q l c s, x = ow 2 u bo na wl ++ mA T S K G Q l c s := by
  unfold so_agedL at h
  split at h
  · rename_i cT cS cK cG cQ th sl gn cl no aother anumber alater aat aslot aslots T S K G Q l c tk ts to told tnew td many ws
    exact ⟨fun j => nthD 0 [cT, cS, cK, cG, cQ, th, sl, gn, no, aother, anumber, aat, aslot, aslots] j, fun j => nthD false [cl, alater] j, fun j => nthD 0 [] j, fun j => nthD [] [] j, T, S, K, G, Q, l, c, ⟨ws, many, tk, ts, to, told, tnew, td⟩, rfl⟩
  · cases h
theorem dec_agedS {x : List Atom} {r : Nat × List Atom} (h : (so_agedS x).get = some r) : ∃ u bo na wl T S K G Q l c s, x = ow 3 u bo na wl ++ mA T S K G Q l c s := by
  unfold so_agedS at h
  split at h
  · rename_i cT cS cK cG cQ th sl gn cl no aother anumber alater aat aslot aslots T S K G Q l c tk ts to told tnew td many ws
    exact ⟨fun j => nthD 0 [cT, cS, cK, cG, cQ, th, sl, gn, no, aother, anumber, aat, aslot, aslots] j, fun j => nthD false [cl, alater] j, fun j => nthD 0 [] j, fun j => nthD [] [] j, T, S, K, G, Q, l, c, ⟨ws, many, tk, ts, to, told, tnew, td⟩, rfl⟩
  · cases h
theorem dec_die {x : List Atom} {r : Nat × List Atom} (h : (so_die x).get = some r) : ∃ u bo na wl T S K G Q l c s, x = ow 4 u bo na wl ++ mA T S K G Q l c s := by
  unfold so_die at h
  split at h
  · rename_i cT cS cK cG cQ th sl gn cl no T S K G Q l c tk ts to told tnew td many ws
    exact ⟨fun j => nthD 0 [cT, cS, cK, cG, cQ, th, sl, gn, no] j, fun j => nthD false [cl] j, fun j => nthD 0 [] j, fun j => nthD [] [] j, T, S, K, G, Q, l, c, ⟨ws, many, tk, ts, to, told, tnew, td⟩, rfl⟩
  · cases h
theorem dec_dead {x : List Atom} {r : Nat × List Atom} (h : (so_dead x).get = some r) : ∃ u bo na wl T S K G Q l c s, x = ow 5 u bo na wl ++ mA T S K G Q l c s := by
  unfold so_dead at h
  split at h
  · rename_i cT cS cK cG cQ th sl gn cl w no T S K G Q l c tk ts to told tnew td many ws
    exact ⟨fun j => nthD 0 [cT, cS, cK, cG, cQ, th, sl, gn, w, no] j, fun j => nthD false [cl] j, fun j => nthD 0 [] j, fun j => nthD [] [] j, T, S, K, G, Q, l, c, ⟨ws, many, tk, ts, to, told, tnew, td⟩, rfl⟩
  · cases h
theorem dec_tick {x : List Atom} {r : Nat × List Atom} (h : (so_tick x).get = some r) : ∃ u bo na wl T S K G Q l c s, x = ow 6 u bo na wl ++ mA T S K G Q l c s := by
  unfold so_tick at h
  split at h
  · rename_i cT cS cK cG cQ th sl gn cl no T S K G Q l c tk ts to told tnew td many ws
    exact ⟨fun j => nthD 0 [cT, cS, cK, cG, cQ, th, sl, gn, no] j, fun j => nthD false [cl] j, fun j => nthD 0 [] j, fun j => nthD [] [] j, T, S, K, G, Q, l, c, ⟨ws, many, tk, ts, to, told, tnew, td⟩, rfl⟩
  · cases h
theorem dec_note {x : List Atom} {r : Nat × List Atom} (h : (so_note x).get = some r) : ∃ u bo na wl T S K G Q l c s, x = ow 7 u bo na wl ++ mA T S K G Q l c s := by
  unfold so_note at h
  split at h
  · rename_i cT cS cK cG cQ th sl gn cl r no T S K G Q l c tk ts to told tnew td many ws
    exact ⟨fun j => nthD 0 [cT, cS, cK, cG, cQ, th, sl, gn, r, no] j, fun j => nthD false [cl] j, fun j => nthD 0 [] j, fun j => nthD [] [] j, T, S, K, G, Q, l, c, ⟨ws, many, tk, ts, to, told, tnew, td⟩, rfl⟩
  · cases h
theorem dec_retired {x : List Atom} {r : Nat × List Atom} (h : (so_retired x).get = some r) : ∃ u bo na wl T S K G Q l c s, x = ow 8 u bo na wl ++ mA T S K G Q l c s := by
  unfold so_retired at h
  split at h
  · rename_i cT cS cK cG cQ th sl gn cl no T S K G Q l c tk ts to told tnew td many ws
    exact ⟨fun j => nthD 0 [cT, cS, cK, cG, cQ, th, sl, gn, no] j, fun j => nthD false [cl] j, fun j => nthD 0 [] j, fun j => nthD [] [] j, T, S, K, G, Q, l, c, ⟨ws, many, tk, ts, to, told, tnew, td⟩, rfl⟩
  · cases h
theorem dec_grace {x : List Atom} {r : Nat × List Atom} (h : (so_grace x).get = some r) : ∃ u bo na wl T S K G Q l c s, x = ow 9 u bo na wl ++ mA T S K G Q l c s := by
  unfold so_grace at h
  split at h
  · rename_i cT cS cK cG cQ th sl gn cl no gown gat gret glater T S K G Q l c tk ts to told tnew td many ws
    exact ⟨fun j => nthD 0 [cT, cS, cK, cG, cQ, th, sl, gn, no, gown, gat, gret] j, fun j => nthD false [cl, glater] j, fun j => nthD 0 [] j, fun j => nthD [] [] j, T, S, K, G, Q, l, c, ⟨ws, many, tk, ts, to, told, tnew, td⟩, rfl⟩
  · cases h
theorem dec_keys {x : List Atom} {r : Nat × List Atom} (h : (so_keys x).get = some r) : ∃ u bo na wl T S K G Q l c s, x = ow 10 u bo na wl ++ mA T S K G Q l c s := by
  unfold so_keys at h
  split at h
  · rename_i cT cS cK cG cQ th sl gn a cl no cn cbut cbelow T S K G Q l c tk ts to told tnew td many ws
    exact ⟨fun j => nthD 0 [cT, cS, cK, cG, cQ, th, sl, gn, a, no, cn, cbut, cbelow] j, fun j => nthD false [cl] j, fun j => nthD 0 [] j, fun j => nthD [] [] j, T, S, K, G, Q, l, c, ⟨ws, many, tk, ts, to, told, tnew, td⟩, rfl⟩
  · cases h
theorem dec_unmark {x : List Atom} {r : Nat × List Atom} (h : (so_unmark x).get = some r) : ∃ u bo na wl T S K G Q l c s, x = ow 11 u bo na wl ++ mA T S K G Q l c s := by
  unfold so_unmark at h
  split at h
  · rename_i cT cS cK cG cQ th sl gn a cl w no cn cbut cbelow T S K G Q l c tk ts to told tnew td many ws
    exact ⟨fun j => nthD 0 [cT, cS, cK, cG, cQ, th, sl, gn, a, w, no, cn, cbut, cbelow] j, fun j => nthD false [cl] j, fun j => nthD 0 [] j, fun j => nthD [] [] j, T, S, K, G, Q, l, c, ⟨ws, many, tk, ts, to, told, tnew, td⟩, rfl⟩
  · cases h
theorem dec_past {x : List Atom} {r : Nat × List Atom} (h : (so_past x).get = some r) : ∃ u bo na wl T S K G Q l c s, x = ow 12 u bo na wl ++ mA T S K G Q l c s := by
  unfold so_past at h
  split at h
  · rename_i cT cS cK cG cQ th sl gn cl no T S K G Q l c tk ts to told tnew td many ws
    exact ⟨fun j => nthD 0 [cT, cS, cK, cG, cQ, th, sl, gn, no] j, fun j => nthD false [cl] j, fun j => nthD 0 [] j, fun j => nthD [] [] j, T, S, K, G, Q, l, c, ⟨ws, many, tk, ts, to, told, tnew, td⟩, rfl⟩
  · cases h
theorem dec_others {x : List Atom} {r : Nat × List Atom} (h : (so_others x).get = some r) : ∃ u bo na wl T S K G Q l c s, x = ow 13 u bo na wl ++ mA T S K G Q l c s := by
  unfold so_others at h
  split at h
  · rename_i cT cS cK cG cQ th sl gn a cl n no cn cbut cbelow T S K G Q l c tk ts to told tnew td many ws
    exact ⟨fun j => nthD 0 [cT, cS, cK, cG, cQ, th, sl, gn, a, n, no, cn, cbut, cbelow] j, fun j => nthD false [cl] j, fun j => nthD 0 [] j, fun j => nthD [] [] j, T, S, K, G, Q, l, c, ⟨ws, many, tk, ts, to, told, tnew, td⟩, rfl⟩
  · cases h
theorem dec_part {x : List Atom} {r : Nat × List Atom} (h : (so_part x).get = some r) : ∃ u bo na wl T S K G Q l c s, x = ow 14 u bo na wl ++ mA T S K G Q l c s := by
  unfold so_part at h
  split at h
  · rename_i cT cS cK cG cQ th sl gn a cl w n no cn cbut cbelow T S K G Q l c tk ts to told tnew td many ws
    exact ⟨fun j => nthD 0 [cT, cS, cK, cG, cQ, th, sl, gn, a, w, n, no, cn, cbut, cbelow] j, fun j => nthD false [cl] j, fun j => nthD 0 [] j, fun j => nthD [] [] j, T, S, K, G, Q, l, c, ⟨ws, many, tk, ts, to, told, tnew, td⟩, rfl⟩
  · cases h
theorem dec_close {x : List Atom} {r : Nat × List Atom} (h : (so_close x).get = some r) : ∃ u bo na wl T S K G Q l c s, x = ow 15 u bo na wl ++ mA T S K G Q l c s := by
  unfold so_close at h
  split at h
  · rename_i cT cS cK cG cQ th sl gn cl no T S K G Q l c tk ts to told tnew td many ws
    exact ⟨fun j => nthD 0 [cT, cS, cK, cG, cQ, th, sl, gn, no] j, fun j => nthD false [cl] j, fun j => nthD 0 [] j, fun j => nthD [] [] j, T, S, K, G, Q, l, c, ⟨ws, many, tk, ts, to, told, tnew, td⟩, rfl⟩
  · cases h
theorem dec_closed {x : List Atom} {r : Nat × List Atom} (h : (so_closed x).get = some r) : ∃ u bo na wl T S K G Q l c s, x = ow 16 u bo na wl ++ mA T S K G Q l c s := by
  unfold so_closed at h
  split at h
  · rename_i cT cS cK cG cQ th sl gn cl w no T S K G Q l c tk ts to told tnew td many ws
    exact ⟨fun j => nthD 0 [cT, cS, cK, cG, cQ, th, sl, gn, w, no] j, fun j => nthD false [cl] j, fun j => nthD 0 [] j, fun j => nthD [] [] j, T, S, K, G, Q, l, c, ⟨ws, many, tk, ts, to, told, tnew, td⟩, rfl⟩
  · cases h
theorem dec_nought {x : List Atom} {r : Nat × List Atom} (h : (so_nought x).get = some r) : ∃ u bo na wl T S K G Q l c s, x = ow 17 u bo na wl ++ mA T S K G Q l c s := by
  unfold so_nought at h
  split at h
  · rename_i cT cS cK cG cQ th sl gn cl no T S K G Q l c tk ts to told tnew td many ws
    exact ⟨fun j => nthD 0 [cT, cS, cK, cG, cQ, th, sl, gn, no] j, fun j => nthD false [cl] j, fun j => nthD 0 [] j, fun j => nthD [] [] j, T, S, K, G, Q, l, c, ⟨ws, many, tk, ts, to, told, tnew, td⟩, rfl⟩
  · cases h
theorem dec_free {x : List Atom} {r : Nat × List Atom} (h : (so_free x).get = some r) : ∃ u bo na wl T S K G Q l c s, x = ow 18 u bo na wl ++ mA T S K G Q l c s := by
  unfold so_free at h
  split at h
  · rename_i cT cS cK cG cQ th sl gn cl no T S K G Q l c tk ts to told tnew td many ws
    exact ⟨fun j => nthD 0 [cT, cS, cK, cG, cQ, th, sl, gn, no] j, fun j => nthD false [cl] j, fun j => nthD 0 [] j, fun j => nthD [] [] j, T, S, K, G, Q, l, c, ⟨ws, many, tk, ts, to, told, tnew, td⟩, rfl⟩
  · cases h
theorem dec_later {x : List Atom} {r : Nat × List Atom} (h : (so_later x).get = some r) : ∃ u bo na wl T S K G Q l c s, x = ow 19 u bo na wl ++ mA T S K G Q l c s := by
  unfold so_later at h
  split at h
  · rename_i cT cS cK cG cQ th sl gn cl no lslot ls lstate llooked lend T S K G Q l c tk ts to told tnew td many ws
    exact ⟨fun j => nthD 0 [cT, cS, cK, cG, cQ, th, sl, gn, no, lslot, ls, lstate] j, fun j => nthD false [cl, llooked, lend] j, fun j => nthD 0 [] j, fun j => nthD [] [] j, T, S, K, G, Q, l, c, ⟨ws, many, tk, ts, to, told, tnew, td⟩, rfl⟩
  · cases h
theorem dec_done {x : List Atom} {r : Nat × List Atom} (h : (so_done x).get = some r) : ∃ u bo na wl T S K G Q l c s, x = ow 20 u bo na wl ++ mA T S K G Q l c s := by
  unfold so_done at h
  split at h
  · rename_i no T S K G Q l c tk ts to told tnew td many ws
    exact ⟨fun j => nthD 0 [no] j, fun j => nthD false [] j, fun j => nthD 0 [] j, fun j => nthD [] [] j, T, S, K, G, Q, l, c, ⟨ws, many, tk, ts, to, told, tnew, td⟩, rfl⟩
  · cases h
theorem dec_all {k : Nat} {x : List Atom} {r : Nat × List Atom} (h : stepK (k, x) = some r) : k ≤ 20 ∧ ∃ u bo na wl T S K G Q l c s, x = ow k u bo na wl ++ mA T S K G Q l c s := by
  unfold stepK at h
  match k, h with
  | 0, h => exact ⟨by omega, dec_enter h⟩
  | 1, h => exact ⟨by omega, dec_number h⟩
  | 2, h => exact ⟨by omega, dec_agedL h⟩
  | 3, h => exact ⟨by omega, dec_agedS h⟩
  | 4, h => exact ⟨by omega, dec_die h⟩
  | 5, h => exact ⟨by omega, dec_dead h⟩
  | 6, h => exact ⟨by omega, dec_tick h⟩
  | 7, h => exact ⟨by omega, dec_note h⟩
  | 8, h => exact ⟨by omega, dec_retired h⟩
  | 9, h => exact ⟨by omega, dec_grace h⟩
  | 10, h => exact ⟨by omega, dec_keys h⟩
  | 11, h => exact ⟨by omega, dec_unmark h⟩
  | 12, h => exact ⟨by omega, dec_past h⟩
  | 13, h => exact ⟨by omega, dec_others h⟩
  | 14, h => exact ⟨by omega, dec_part h⟩
  | 15, h => exact ⟨by omega, dec_close h⟩
  | 16, h => exact ⟨by omega, dec_closed h⟩
  | 17, h => exact ⟨by omega, dec_nought h⟩
  | 18, h => exact ⟨by omega, dec_free h⟩
  | 19, h => exact ⟨by omega, dec_later h⟩
  | 20, h => exact ⟨by omega, dec_done h⟩
  | n + 21, h => simp [soL, nthD] at h
def idxs (f : Nat) : List Nat → Nat → List Nat
  | [], _ => []
  | g :: l, k => cond (Nat.beq g f) (k :: idxs f l (k + 1)) (idxs f l (k + 1))
def kindV : Value → List Nat
  | .nilFunc => [20]
  | .func (.func f) _ _ => idxs f (swFn.take 20) 0
  | _ => []
/-- The kinds that a sweep may have. -/
def kindsS (s : St) (t : Nat) : List Nat := match s.T.get t with
  | some (.pointer (some ⟨i, _, _⟩)) => match s.H.get i with
    | some ⟨_, .vals (v :: _)⟩ => kindV v
    | some ⟨_, .part (v :: _) _⟩ => kindV v
    | _ => []
  | _ => []
def selE (e : Ex) (s : St) : List Nat := match e with
  | .normal => kindsS s 0
  | _ => [0]
def endPm (m k : Nat) (sl : List (Nat × Pat)) (n : Nat) : SPat := ⟨sl, n, swC k 0 (m + 2) :: swSub k 0 (m + 2) ++ [(m, 111, memK (m + 1)), (m + 1, 22, .ints .u64)], m + 2 + (swSub k 0 0).length, upTo (m + 2) []⟩
def EMm (m : Nat) : SForm := ⟨⟨(upTo 21 []).map fun k => ([0, 1, 2, 8, 9], endPm m k [(0, .ptr 0 0 none), (1, .ptr m 0 none), (2, i6), (8, i6), (9, i6)] 20), [], [([6], endPm m 20 [(6, i6)] 20)]⟩, selE⟩
noncomputable def rdm (m : Nat) (x : List Atom) : Tree (Ex × List Atom) := roundS sumsS1 60 16 2 (m + 2) (EMm m) x
def stepT (k : Nat) (x : List Atom) : Tree (Nat × List Atom) := nthD (fun _ => .bad) soL k x
def RmOk (m k : Nat) : Prop := ∀ (most bound i : Int) (u : Nat → Int) (bo : Nat → Bool) (na : Nat → Nat) (wl : Nat → List Int) (T S K G Q : Int) (l c : Nat) (s : MS), (rdm m (emA k most bound i (ow k u bo na wl ++ mA T S K G Q l c s))).get = (Tree.br (decide (i < bound)) (cond (Nat.beq k 20) (.leaf (.ret, .n 0 :: .i i :: (ow k u bo na wl ++ mA T S K G Q l c s))) ((stepT k (ow k u bo na wl ++ mA T S K G Q l c s)).bind fun r => .leaf (.normal, emA r.1 most bound (IntKind.i64.wrap (i + 1)) r.2))) .bad).get
theorem rm_1_0 : RmOk 1 0 := fun most bound i u bo na wl T S K G Q l c s => by kernel_rfl
theorem rm_1_1 : RmOk 1 1 := fun most bound i u bo na wl T S K G Q l c s => by kernel_rfl
theorem rm_1_2 : RmOk 1 2 := fun most bound i u bo na wl T S K G Q l c s => by kernel_rfl
theorem rm_1_3 : RmOk 1 3 := fun most bound i u bo na wl T S K G Q l c s => by kernel_rfl
theorem rm_1_4 : RmOk 1 4 := fun most bound i u bo na wl T S K G Q l c s => by kernel_rfl
theorem rm_1_5 : RmOk 1 5 := fun most bound i u bo na wl T S K G Q l c s => by kernel_rfl
theorem rm_1_6 : RmOk 1 6 := fun most bound i u bo na wl T S K G Q l c s => by kernel_rfl
theorem rm_1_7 : RmOk 1 7 := fun most bound i u bo na wl T S K G Q l c s => by kernel_rfl
theorem rm_1_8 : RmOk 1 8 := fun most bound i u bo na wl T S K G Q l c s => by kernel_rfl
theorem rm_1_9 : RmOk 1 9 := fun most bound i u bo na wl T S K G Q l c s => by kernel_rfl
theorem rm_1_10 : RmOk 1 10 := fun most bound i u bo na wl T S K G Q l c s => by kernel_rfl
theorem rm_1_11 : RmOk 1 11 := fun most bound i u bo na wl T S K G Q l c s => by kernel_rfl
theorem rm_1_12 : RmOk 1 12 := fun most bound i u bo na wl T S K G Q l c s => by kernel_rfl
theorem rm_1_13 : RmOk 1 13 := fun most bound i u bo na wl T S K G Q l c s => by kernel_rfl
theorem rm_1_14 : RmOk 1 14 := fun most bound i u bo na wl T S K G Q l c s => by kernel_rfl
theorem rm_1_15 : RmOk 1 15 := fun most bound i u bo na wl T S K G Q l c s => by kernel_rfl
theorem rm_1_16 : RmOk 1 16 := fun most bound i u bo na wl T S K G Q l c s => by kernel_rfl
theorem rm_1_17 : RmOk 1 17 := fun most bound i u bo na wl T S K G Q l c s => by kernel_rfl
theorem rm_1_18 : RmOk 1 18 := fun most bound i u bo na wl T S K G Q l c s => by kernel_rfl
theorem rm_1_19 : RmOk 1 19 := fun most bound i u bo na wl T S K G Q l c s => by kernel_rfl
theorem rm_1_20 : RmOk 1 20 := fun most bound i u bo na wl T S K G Q l c s => by kernel_rfl
theorem rm_1 {k : Nat} (hk : k ≤ 20) : RmOk 1 k := by
  match k, hk with
  | 0, _ => exact rm_1_0
  | 1, _ => exact rm_1_1
  | 2, _ => exact rm_1_2
  | 3, _ => exact rm_1_3
  | 4, _ => exact rm_1_4
  | 5, _ => exact rm_1_5
  | 6, _ => exact rm_1_6
  | 7, _ => exact rm_1_7
  | 8, _ => exact rm_1_8
  | 9, _ => exact rm_1_9
  | 10, _ => exact rm_1_10
  | 11, _ => exact rm_1_11
  | 12, _ => exact rm_1_12
  | 13, _ => exact rm_1_13
  | 14, _ => exact rm_1_14
  | 15, _ => exact rm_1_15
  | 16, _ => exact rm_1_16
  | 17, _ => exact rm_1_17
  | 18, _ => exact rm_1_18
  | 19, _ => exact rm_1_19
  | 20, _ => exact rm_1_20
  | n + 21, hk => omega
theorem rm_2_0 : RmOk 2 0 := fun most bound i u bo na wl T S K G Q l c s => by kernel_rfl
theorem rm_2_1 : RmOk 2 1 := fun most bound i u bo na wl T S K G Q l c s => by kernel_rfl
theorem rm_2_2 : RmOk 2 2 := fun most bound i u bo na wl T S K G Q l c s => by kernel_rfl
theorem rm_2_3 : RmOk 2 3 := fun most bound i u bo na wl T S K G Q l c s => by kernel_rfl
theorem rm_2_4 : RmOk 2 4 := fun most bound i u bo na wl T S K G Q l c s => by kernel_rfl
theorem rm_2_5 : RmOk 2 5 := fun most bound i u bo na wl T S K G Q l c s => by kernel_rfl
theorem rm_2_6 : RmOk 2 6 := fun most bound i u bo na wl T S K G Q l c s => by kernel_rfl
theorem rm_2_7 : RmOk 2 7 := fun most bound i u bo na wl T S K G Q l c s => by kernel_rfl
theorem rm_2_8 : RmOk 2 8 := fun most bound i u bo na wl T S K G Q l c s => by kernel_rfl
theorem rm_2_9 : RmOk 2 9 := fun most bound i u bo na wl T S K G Q l c s => by kernel_rfl
theorem rm_2_10 : RmOk 2 10 := fun most bound i u bo na wl T S K G Q l c s => by kernel_rfl
theorem rm_2_11 : RmOk 2 11 := fun most bound i u bo na wl T S K G Q l c s => by kernel_rfl
theorem rm_2_12 : RmOk 2 12 := fun most bound i u bo na wl T S K G Q l c s => by kernel_rfl
theorem rm_2_13 : RmOk 2 13 := fun most bound i u bo na wl T S K G Q l c s => by kernel_rfl
theorem rm_2_14 : RmOk 2 14 := fun most bound i u bo na wl T S K G Q l c s => by kernel_rfl
theorem rm_2_15 : RmOk 2 15 := fun most bound i u bo na wl T S K G Q l c s => by kernel_rfl
theorem rm_2_16 : RmOk 2 16 := fun most bound i u bo na wl T S K G Q l c s => by kernel_rfl
theorem rm_2_17 : RmOk 2 17 := fun most bound i u bo na wl T S K G Q l c s => by kernel_rfl
theorem rm_2_18 : RmOk 2 18 := fun most bound i u bo na wl T S K G Q l c s => by kernel_rfl
theorem rm_2_19 : RmOk 2 19 := fun most bound i u bo na wl T S K G Q l c s => by kernel_rfl
theorem rm_2_20 : RmOk 2 20 := fun most bound i u bo na wl T S K G Q l c s => by kernel_rfl
theorem rm_2 {k : Nat} (hk : k ≤ 20) : RmOk 2 k := by
  match k, hk with
  | 0, _ => exact rm_2_0
  | 1, _ => exact rm_2_1
  | 2, _ => exact rm_2_2
  | 3, _ => exact rm_2_3
  | 4, _ => exact rm_2_4
  | 5, _ => exact rm_2_5
  | 6, _ => exact rm_2_6
  | 7, _ => exact rm_2_7
  | 8, _ => exact rm_2_8
  | 9, _ => exact rm_2_9
  | 10, _ => exact rm_2_10
  | 11, _ => exact rm_2_11
  | 12, _ => exact rm_2_12
  | 13, _ => exact rm_2_13
  | 14, _ => exact rm_2_14
  | 15, _ => exact rm_2_15
  | 16, _ => exact rm_2_16
  | 17, _ => exact rm_2_17
  | 18, _ => exact rm_2_18
  | 19, _ => exact rm_2_19
  | 20, _ => exact rm_2_20
  | n + 21, hk => omega
theorem rm_3_0 : RmOk 3 0 := fun most bound i u bo na wl T S K G Q l c s => by kernel_rfl
theorem rm_3_1 : RmOk 3 1 := fun most bound i u bo na wl T S K G Q l c s => by kernel_rfl
theorem rm_3_2 : RmOk 3 2 := fun most bound i u bo na wl T S K G Q l c s => by kernel_rfl
theorem rm_3_3 : RmOk 3 3 := fun most bound i u bo na wl T S K G Q l c s => by kernel_rfl
theorem rm_3_4 : RmOk 3 4 := fun most bound i u bo na wl T S K G Q l c s => by kernel_rfl
theorem rm_3_5 : RmOk 3 5 := fun most bound i u bo na wl T S K G Q l c s => by kernel_rfl
theorem rm_3_6 : RmOk 3 6 := fun most bound i u bo na wl T S K G Q l c s => by kernel_rfl
theorem rm_3_7 : RmOk 3 7 := fun most bound i u bo na wl T S K G Q l c s => by kernel_rfl
theorem rm_3_8 : RmOk 3 8 := fun most bound i u bo na wl T S K G Q l c s => by kernel_rfl
theorem rm_3_9 : RmOk 3 9 := fun most bound i u bo na wl T S K G Q l c s => by kernel_rfl
theorem rm_3_10 : RmOk 3 10 := fun most bound i u bo na wl T S K G Q l c s => by kernel_rfl
theorem rm_3_11 : RmOk 3 11 := fun most bound i u bo na wl T S K G Q l c s => by kernel_rfl
theorem rm_3_12 : RmOk 3 12 := fun most bound i u bo na wl T S K G Q l c s => by kernel_rfl
theorem rm_3_13 : RmOk 3 13 := fun most bound i u bo na wl T S K G Q l c s => by kernel_rfl
theorem rm_3_14 : RmOk 3 14 := fun most bound i u bo na wl T S K G Q l c s => by kernel_rfl
theorem rm_3_15 : RmOk 3 15 := fun most bound i u bo na wl T S K G Q l c s => by kernel_rfl
theorem rm_3_16 : RmOk 3 16 := fun most bound i u bo na wl T S K G Q l c s => by kernel_rfl
theorem rm_3_17 : RmOk 3 17 := fun most bound i u bo na wl T S K G Q l c s => by kernel_rfl
theorem rm_3_18 : RmOk 3 18 := fun most bound i u bo na wl T S K G Q l c s => by kernel_rfl
theorem rm_3_19 : RmOk 3 19 := fun most bound i u bo na wl T S K G Q l c s => by kernel_rfl
theorem rm_3_20 : RmOk 3 20 := fun most bound i u bo na wl T S K G Q l c s => by kernel_rfl
theorem rm_3 {k : Nat} (hk : k ≤ 20) : RmOk 3 k := by
  match k, hk with
  | 0, _ => exact rm_3_0
  | 1, _ => exact rm_3_1
  | 2, _ => exact rm_3_2
  | 3, _ => exact rm_3_3
  | 4, _ => exact rm_3_4
  | 5, _ => exact rm_3_5
  | 6, _ => exact rm_3_6
  | 7, _ => exact rm_3_7
  | 8, _ => exact rm_3_8
  | 9, _ => exact rm_3_9
  | 10, _ => exact rm_3_10
  | 11, _ => exact rm_3_11
  | 12, _ => exact rm_3_12
  | 13, _ => exact rm_3_13
  | 14, _ => exact rm_3_14
  | 15, _ => exact rm_3_15
  | 16, _ => exact rm_3_16
  | 17, _ => exact rm_3_17
  | 18, _ => exact rm_3_18
  | 19, _ => exact rm_3_19
  | 20, _ => exact rm_3_20
  | n + 21, hk => omega
theorem rm_4_0 : RmOk 4 0 := fun most bound i u bo na wl T S K G Q l c s => by kernel_rfl
theorem rm_4_1 : RmOk 4 1 := fun most bound i u bo na wl T S K G Q l c s => by kernel_rfl
theorem rm_4_2 : RmOk 4 2 := fun most bound i u bo na wl T S K G Q l c s => by kernel_rfl
theorem rm_4_3 : RmOk 4 3 := fun most bound i u bo na wl T S K G Q l c s => by kernel_rfl
theorem rm_4_4 : RmOk 4 4 := fun most bound i u bo na wl T S K G Q l c s => by kernel_rfl
theorem rm_4_5 : RmOk 4 5 := fun most bound i u bo na wl T S K G Q l c s => by kernel_rfl
theorem rm_4_6 : RmOk 4 6 := fun most bound i u bo na wl T S K G Q l c s => by kernel_rfl
theorem rm_4_7 : RmOk 4 7 := fun most bound i u bo na wl T S K G Q l c s => by kernel_rfl
theorem rm_4_8 : RmOk 4 8 := fun most bound i u bo na wl T S K G Q l c s => by kernel_rfl
theorem rm_4_9 : RmOk 4 9 := fun most bound i u bo na wl T S K G Q l c s => by kernel_rfl
theorem rm_4_10 : RmOk 4 10 := fun most bound i u bo na wl T S K G Q l c s => by kernel_rfl
theorem rm_4_11 : RmOk 4 11 := fun most bound i u bo na wl T S K G Q l c s => by kernel_rfl
theorem rm_4_12 : RmOk 4 12 := fun most bound i u bo na wl T S K G Q l c s => by kernel_rfl
theorem rm_4_13 : RmOk 4 13 := fun most bound i u bo na wl T S K G Q l c s => by kernel_rfl
theorem rm_4_14 : RmOk 4 14 := fun most bound i u bo na wl T S K G Q l c s => by kernel_rfl
theorem rm_4_15 : RmOk 4 15 := fun most bound i u bo na wl T S K G Q l c s => by kernel_rfl
theorem rm_4_16 : RmOk 4 16 := fun most bound i u bo na wl T S K G Q l c s => by kernel_rfl
theorem rm_4_17 : RmOk 4 17 := fun most bound i u bo na wl T S K G Q l c s => by kernel_rfl
theorem rm_4_18 : RmOk 4 18 := fun most bound i u bo na wl T S K G Q l c s => by kernel_rfl
theorem rm_4_19 : RmOk 4 19 := fun most bound i u bo na wl T S K G Q l c s => by kernel_rfl
theorem rm_4_20 : RmOk 4 20 := fun most bound i u bo na wl T S K G Q l c s => by kernel_rfl
theorem rm_4 {k : Nat} (hk : k ≤ 20) : RmOk 4 k := by
  match k, hk with
  | 0, _ => exact rm_4_0
  | 1, _ => exact rm_4_1
  | 2, _ => exact rm_4_2
  | 3, _ => exact rm_4_3
  | 4, _ => exact rm_4_4
  | 5, _ => exact rm_4_5
  | 6, _ => exact rm_4_6
  | 7, _ => exact rm_4_7
  | 8, _ => exact rm_4_8
  | 9, _ => exact rm_4_9
  | 10, _ => exact rm_4_10
  | 11, _ => exact rm_4_11
  | 12, _ => exact rm_4_12
  | 13, _ => exact rm_4_13
  | 14, _ => exact rm_4_14
  | 15, _ => exact rm_4_15
  | 16, _ => exact rm_4_16
  | 17, _ => exact rm_4_17
  | 18, _ => exact rm_4_18
  | 19, _ => exact rm_4_19
  | 20, _ => exact rm_4_20
  | n + 21, hk => omega
end Go.Proofs.YtfccbghmagohaaaGreat.Bound
end

section
namespace Go.Proofs.YtfccbghmagohaaaGreat.Bound
open Go.Proofs.YtfccbghmagohaaaGreat.Ev Go.Proofs.YtfccbghmagohaaaGreat.ChartMath
set_option linter.unusedVariables false
set_option linter.unusedSimpArgs false
noncomputable def runG (T S K G Q : Int) (l c : Nat) (f k : Nat) (x : List Atom) : Option ER := (lockP (asR T S K G Q l c (runV f (k, x)))).1
theorem runG_is (T S K G Q : Int) (l c : Nat) (f k : Nat) (x : List Atom) : runG T S K G Q l c f k x = asR T S K G Q l c (runV f (k, x)) := (lockP _).2
noncomputable def egL : List Atom → Tree (Ex × List Atom)
  | .n k :: .i most :: .i bound :: .i i :: x => match x.drop (x.length - 15) with
    | [.i T, .i S, .i K, .i G, .i Q, .n l, .n c, .i tk, .i ts, .i to, .i told, .i tnew, .b td, .i many, .ws ws] => .br (decide (0 ≤ i ∧ bound ≤ 100000)) (.br (runG T S K G Q l c (bound - i).toNat k x).isSome (.leaf (.ret, .n 0 :: .i (i + ((runG T S K G Q l c (bound - i).toNat k x).getD dfR).n) :: .i ((runG T S K G Q l c (bound - i).toNat k x).getD dfR).e :: mA T S K G Q l c ((runG T S K G Q l c (bound - i).toNat k x).getD dfR).s)) .bad) .bad
    | _ => .bad
  | _ => .bad
/-- The call, from a kind on. -/
noncomputable def egF (k : Nat) : List Atom → Tree (Nat × List Atom)
  | .i most :: x => match x.drop (x.length - 15) with
    | [.i T, .i S, .i K, .i G, .i Q, .n l, .n c, .i tk, .i ts, .i to, .i told, .i tnew, .b td, .i many, .ws ws] => .br (decide (0 ≤ (0 : Int) ∧ most ≤ 100000)) (.br (runG T S K G Q l c (most - 0).toNat k x).isSome (.leaf (0, .i (0 + ((runG T S K G Q l c (most - 0).toNat k x).getD dfR).n) :: .i ((runG T S K G Q l c (most - 0).toNat k x).getD dfR).e :: mA T S K G Q l c ((runG T S K G Q l c (most - 0).toNat k x).getD dfR).s)) .bad) .bad
    | _ => .bad
  | _ => .bad
theorem stepK_T (k : Nat) (x : List Atom) : stepK (k, x) = (stepT k x).get := rfl
theorem dec_end {x : List Atom} {v : EndR} (h : asE x = some v) : ∃ u bo na wl T S K G Q l c s, x = ow 20 u bo na wl ++ mA T S K G Q l c s := by
  obtain ⟨_, e2⟩ := asE_at h
  exact (dec_all (k := 20) (r := (20, x)) e2).2
theorem dec_run {f k : Nat} {x : List Atom} {p : Nat × EndR} (h : runV f (k, x) = some p) : k ≤ 20 ∧ ∃ u bo na wl T S K G Q l c s, x = ow k u bo na wl ++ mA T S K G Q l c s := by
  obtain ⟨n, v⟩ := p
  obtain ⟨g, rfl, ⟨rfl, _, ha⟩ | ⟨_, r, m, _, hs, _⟩⟩ := runV_step h
  · exact ⟨by omega, dec_end ha⟩
  · exact dec_all hs
theorem egm_iter {m : Nat} (hm : ∀ {k : Nat}, k ≤ 20 → RmOk m k) (most bound : Int) : ∀ (f k : Nat) (i : Int) (x : List Atom) (n : Nat) (v : EndR), (bound - i).toNat = f → 0 ≤ i → bound ≤ 100000 → runV f (k, x) = some (n, v) → ∃ j, iterR (rdm m) j (emA k most bound i x) = some (.ret, .n 0 :: .i (i + (n : Int)) :: v.at)
  | f, k, i, x, n, v, hf, h0, h1, h => by
    obtain ⟨g, rfl, hc⟩ := runV_step h
    have hi : i < bound := by omega
    rcases hc with ⟨rfl, rfl, ha⟩ | ⟨hk, r, q, rfl, hs, hr⟩
    · refine ⟨1, ?_⟩
      obtain ⟨e1, _⟩ := asE_at ha
      obtain ⟨u, bo, na, wl, T, S, K, G, Q, l, c, s, ex⟩ := dec_end ha
      rw [e1, ex]
      simp only [iterR, hm (Nat.le_refl 20) most bound i u bo na wl T S K G Q l c s, Tree.get_br, if_pos (decide_eq_true hi), Nat.beq_refl, cond_true, Tree.get_leaf]
      simp
    · have hw : IntKind.i64.wrap (i + 1) = i + 1 := by rw [IntKind.wrap_i64]; omega
      obtain ⟨j, hj⟩ := egm_iter hm most bound g r.1 (i + 1) r.2 q v (by omega) (by omega) h1 hr
      obtain ⟨h20, u, bo, na, wl, T, S, K, G, Q, l, c, s, ex⟩ := dec_all hs
      have hb : Nat.beq k 20 = false := by rw [← Bool.not_eq_true]; intro hh; exact hk (Nat.eq_of_beq_eq_true hh)
      refine ⟨j + 1, ?_⟩
      rw [ex] at hs
      rw [ex]
      simp only [iterR, hm h20 most bound i u bo na wl T S K G Q l c s, Tree.get_br, if_pos (decide_eq_true hi), hb, cond_false, Tree.get_bind, ← stepK_T, hs, Option.bind_some, Tree.get_leaf]
      rw [hw, hj]
      simp only [Option.some.injEq, Prod.mk.injEq, true_and, List.cons.injEq, Atom.i.injEq, and_true]
      omega
theorem asR_some {T S K G Q : Int} {l c : Nat} {p : Nat × EndR} (h : (asR T S K G Q l c (some p)).isSome = true) : ∃ (n : Nat) (s : Int × MS), p = (n, ⟨s.1, T, S, K, G, Q, l, c, s.2⟩) ∧ asR T S K G Q l c (some p) = some ⟨n, s.1, s.2⟩ := by
  obtain ⟨n, v⟩ := p
  unfold asR at h ⊢
  simp only at h ⊢
  cases hq : decide (v.T = T ∧ v.S = S ∧ v.K = K ∧ v.G = G ∧ v.Q = Q ∧ v.l = l ∧ v.c = c) with
  | false => rw [hq] at h; cases h
  | true =>
    obtain ⟨e1, e2, e3, e4, e5, e6, e7⟩ := of_decide_eq_true hq
    obtain ⟨e, T', S', K', G', Q', l', c', s⟩ := v
    simp only at e1 e2 e3 e4 e5 e6 e7
    subst e1 e2 e3 e4 e5 e6 e7
    exact ⟨n, (e, s), rfl, rfl⟩
theorem egm_step {m : Nat} (hm : ∀ {k : Nat}, k ≤ 20 → RmOk m k) (x : List Atom) (r : Ex × List Atom) (h : (egL x).get = some r) : ∃ n, iterR (rdm m) n x = some r := by
  unfold egL at h
  simp only [runG_is] at h
  split at h
  case h_2 => cases h
  rename_i k most bound i x
  split at h
  case h_2 => cases h
  rename_i T S K G Q l c tk ts to told tnew td many ws hx
  obtain ⟨hg, g2⟩ := get_br h
  obtain ⟨h0, h1⟩ := of_decide_eq_true hg
  obtain ⟨hs, g3⟩ := get_br g2
  cases hv : runV (bound - i).toNat (k, x) with
  | none => rw [hv] at hs; cases hs
  | some p =>
    rw [hv] at hs g3
    obtain ⟨n, q, rfl, e2⟩ := asR_some hs
    obtain ⟨j, hj⟩ := egm_iter hm most bound _ k i x n _ rfl h0 h1 hv
    rw [e2] at g3
    simp only [Tree.get_leaf, Option.some.injEq, Option.getD_some] at g3
    exact ⟨j, hj.trans (by rw [← g3]; rfl)⟩
noncomputable def sumsGm (m : Nat) : Sums := withLoop sumsS1 16 2 (tmsum (m + 2) (EMm m).F egL)
theorem sumsGm_ok {m : Nat} (hm : ∀ {k : Nat}, k ≤ 20 → RmOk m k) (hh : headsOk (m + 2) (EMm m).F.heads = true) : SumsOk (sumsGm m) := by
  have e : rdm m = roundS sumsS1 60 16 2 (m + 2) (EMm m) := by
    funext x
    unfold rdm
    rfl
  have hs : ∀ x r, (egL x).get = some r → ∃ n, iterR (roundS sumsS1 60 16 2 (m + 2) (EMm m)) n x = some r := by
    rw [← e]
    exact egm_step hm
  have := loop_ssum sumsS1_ok bodyEnds_is keysEnds_is hh hs
  exact this
theorem EMm_heads1 : headsOk (1 + 2) (EMm 1).F.heads = true := by kernel_rfl
theorem EMm_heads2 : headsOk (2 + 2) (EMm 2).F.heads = true := by kernel_rfl
theorem EMm_heads3 : headsOk (3 + 2) (EMm 3).F.heads = true := by kernel_rfl
theorem EMm_heads4 : headsOk (4 + 2) (EMm 4).F.heads = true := by kernel_rfl
def EFk (k : Nat) : FForm :=
  let m := (swSub k 0 0).length + 1
  ⟨[.ptr 0 0 none, .ptr m 0 none, i6], swC k 0 1 :: swSub k 0 1 ++ [(m, 111, memK (m + 1)), (m + 1, 22, .ints .u64)], [endPm m 20 [(0, i6)] 1]⟩
def FeOk (sums : Sums) (k : Nat) : Prop := ∀ (most : Int) (u : Nat → Int) (bo : Nat → Bool) (na : Nat → Nat) (wl : Nat → List Int) (T S K G Q : Int) (l c : Nat) (s : MS), (endF (ev sums 60 16) (EFk k) (.i most :: (ow k u bo na wl ++ mA T S K G Q l c s))).get = (egF k (.i most :: (ow k u bo na wl ++ mA T S K G Q l c s))).get
theorem fe_4 : FeOk (sumsGm 1) 4 := fun most u bo na wl T S K G Q l c s => by kernel_rfl
theorem fe_5 : FeOk (sumsGm 1) 5 := fun most u bo na wl T S K G Q l c s => by kernel_rfl
theorem fe_6 : FeOk (sumsGm 1) 6 := fun most u bo na wl T S K G Q l c s => by kernel_rfl
theorem fe_7 : FeOk (sumsGm 1) 7 := fun most u bo na wl T S K G Q l c s => by kernel_rfl
theorem fe_12 : FeOk (sumsGm 1) 12 := fun most u bo na wl T S K G Q l c s => by kernel_rfl
theorem fe_15 : FeOk (sumsGm 1) 15 := fun most u bo na wl T S K G Q l c s => by kernel_rfl
theorem fe_16 : FeOk (sumsGm 1) 16 := fun most u bo na wl T S K G Q l c s => by kernel_rfl
theorem fe_17 : FeOk (sumsGm 1) 17 := fun most u bo na wl T S K G Q l c s => by kernel_rfl
theorem fe_18 : FeOk (sumsGm 1) 18 := fun most u bo na wl T S K G Q l c s => by kernel_rfl
theorem fe_20 : FeOk (sumsGm 1) 20 := fun most u bo na wl T S K G Q l c s => by kernel_rfl
theorem fe_9 : FeOk (sumsGm 2) 9 := fun most u bo na wl T S K G Q l c s => by kernel_rfl
theorem fe_0 : FeOk (sumsGm 3) 0 := fun most u bo na wl T S K G Q l c s => by kernel_rfl
theorem fe_10 : FeOk (sumsGm 4) 10 := fun most u bo na wl T S K G Q l c s => by kernel_rfl
theorem fe_11 : FeOk (sumsGm 4) 11 := fun most u bo na wl T S K G Q l c s => by kernel_rfl
theorem fe_13 : FeOk (sumsGm 4) 13 := fun most u bo na wl T S K G Q l c s => by kernel_rfl
theorem fe_14 : FeOk (sumsGm 4) 14 := fun most u bo na wl T S K G Q l c s => by kernel_rfl
theorem fe_st {sums : Sums} {k : Nat} (hf : FeOk sums k) (x : List Atom) (r : Nat × List Atom) (h : (egF k x).get = some r) : (endF (ev sums 60 16) (EFk k) x).get = some r := by
  have h' := h
  unfold egF at h
  simp only [runG_is] at h
  split at h
  case h_2 => cases h
  rename_i most x
  split at h
  case h_2 => cases h
  rename_i T S K G Q l c tk ts to told tnew td many ws hx
  obtain ⟨hg, g2⟩ := get_br h
  obtain ⟨hs, g3⟩ := get_br g2
  cases hv : runV (most - 0).toNat (k, x) with
  | none => rw [hv] at hs; cases hs
  | some p =>
    obtain ⟨_, u, bo, na, wl, T, S, K, G, Q, l, c, s, ex⟩ := dec_run hv
    subst ex
    rw [hf]
    exact h'
noncomputable def egP (k : Nat) : FForm × (List Atom → Tree (Nat × List Atom)) := (EFk k, egF k)
def anyF (l : List FForm) (args : List Value) (H : TH) : Bool := match l with
  | [] => false
  | F :: l => (matF F args H).isSome || anyF l args H
noncomputable def egG1 : List (FForm × (List Atom → Tree (Nat × List Atom))) := [egP 4, egP 5, egP 6, egP 7, egP 12, egP 15, egP 16, egP 17, egP 18, egP 20]
theorem egG1_ok : SoundSum Tryz.prog 16 (tsums egG1) := tsums_ok (ev_sound (sumsGm_ok rm_1 EMm_heads1) 60 _) fun a ha => by
  simp only [egG1, List.mem_cons, List.not_mem_nil, or_false] at ha
  rcases ha with rfl | rfl | rfl | rfl | rfl | rfl | rfl | rfl | rfl | rfl
  · exact fe_st fe_4
  · exact fe_st fe_5
  · exact fe_st fe_6
  · exact fe_st fe_7
  · exact fe_st fe_12
  · exact fe_st fe_15
  · exact fe_st fe_16
  · exact fe_st fe_17
  · exact fe_st fe_18
  · exact fe_st fe_20
noncomputable def egG2 : List (FForm × (List Atom → Tree (Nat × List Atom))) := [egP 9]
theorem egG2_ok : SoundSum Tryz.prog 16 (tsums egG2) := tsums_ok (ev_sound (sumsGm_ok rm_2 EMm_heads2) 60 _) fun a ha => by
  simp only [egG2, List.mem_cons, List.not_mem_nil, or_false] at ha
  subst ha
  exact fe_st fe_9
noncomputable def egG3 : List (FForm × (List Atom → Tree (Nat × List Atom))) := [egP 0]
theorem egG3_ok : SoundSum Tryz.prog 16 (tsums egG3) := tsums_ok (ev_sound (sumsGm_ok rm_3 EMm_heads3) 60 _) fun a ha => by
  simp only [egG3, List.mem_cons, List.not_mem_nil, or_false] at ha
  subst ha
  exact fe_st fe_0
noncomputable def egG4 : List (FForm × (List Atom → Tree (Nat × List Atom))) := [egP 10, egP 11, egP 13, egP 14]
theorem egG4_ok : SoundSum Tryz.prog 16 (tsums egG4) := tsums_ok (ev_sound (sumsGm_ok rm_4 EMm_heads4) 60 _) fun a ha => by
  simp only [egG4, List.mem_cons, List.not_mem_nil, or_false] at ha
  rcases ha with rfl | rfl | rfl | rfl
  · exact fe_st fe_10
  · exact fe_st fe_11
  · exact fe_st fe_13
  · exact fe_st fe_14
noncomputable def endGS : Sum := canon (orSum (fun args H => anyF [EF, EFd] args H) (orSum (fun args H => (matF EF args H).isSome) (tsum EF endFo) (tsum EFd endFd)) (orSum (fun args H => anyF [EFk 4, EFk 5, EFk 6, EFk 7, EFk 12, EFk 15, EFk 16, EFk 17, EFk 18, EFk 20] args H) (tsums egG1) (orSum (fun args H => anyF [EFk 10, EFk 11, EFk 13, EFk 14] args H) (tsums egG4) (orSum (fun args H => anyF [EFk 0] args H) (tsums egG3) (tsums egG2)))))
noncomputable def withEndG (sums : Sums) : Sums := withCall sums 16 endGS
theorem withEndG_ok {sums : Sums} (h : SumsOk sums) : SumsOk (withEndG sums) := withCall_ok h (canon_ok (orSum_ok (orSum_ok (tsum_ok (ev_sound sumsEL_ok 60 _) endFo_st) (tsum_ok (ev_sound sumsS1_ok 60 _) endFd_st)) (orSum_ok egG1_ok (orSum_ok egG4_ok (orSum_ok egG3_ok egG2_ok))))) (by kernel_rfl)
end Go.Proofs.YtfccbghmagohaaaGreat.Bound
end
