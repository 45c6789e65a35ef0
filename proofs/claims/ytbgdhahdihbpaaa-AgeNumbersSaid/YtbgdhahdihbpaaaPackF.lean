/- A memory begins, and what it tells. Conditions stand in the statements. A status's state. No condition. Words at their places. Conditions stand in the statements. -/
import Derived.Test.YtbgdhahdihbpaaaPackB
import Derived.Laws.CopyOwn
import Derived.Deep.OwnRows
import Derived.LoopTactic
import Derived.Laws.EntriesVeiled
section
namespace Go.Proofs.Ytbgdhahdihbpaaa.Store
open Go.RowKit Go.IntWalk Go.Proofs.Ytbgdhahdihbpaaa.Own Go.Proofs.Ytbgdhahdihbpaaa.Model
open Go.Proofs.YtbgdhahdihbpaaaW.PrintLast
set_option linter.unusedSimpArgs false
set_option linter.unusedVariables false

theorem words_len (ws : List Int) : (wordsV ws).size = ws.length := by simp [wordsV]
theorem words_under : Try.prog.underlying 25 = some (.slice 22) := by kernel_rfl
theorem words_info : (Try.prog.info? 22).map (fun i => (i.zero, i.size, i.bytes)) = some (some (.int .u64 0), 1, 8) := by kernel_rfl
theorem words_size : (Try.prog.info? 22).map (·.size) = some 1 := by kernel_rfl
theorem make_words (n : Nat) (h : n ≤ 100) (W : World) : (Instr.makeSlice 25 (.int .i64 (n : Int)) (.int .i64 (n : Int))).run Try.prog W = .ok (.slice (some ⟨W.heap.size, 0, none⟩) n n) (W.alloc (.cells (madeCells #[.int .u64 0] n) 22)) :=
  run_make_row' 25 22 (.int .u64 0) 8 words_under words_info rfl .i64 .i64 n (by omega) (by omega) W
theorem blkRow {w : World} {g : Nat} {t : TypeId} {cs : Array Value} (h : Blk w g t cs) (cs' : Array Value) : Blk (w.setRow g cs') g t cs' := by
  unfold Blk at h ⊢; exact setRow_heap w g _ _ t _ h
theorem addr_add0 (s j : Nat) : (⟨s, 0, none⟩ : Addr).add j = ⟨s, j, none⟩ := by
  unfold Addr.add; split
  · rename_i h; subst h; rfl
  · simp
theorem blkRowFar {w : World} {g g' : Nat} {t : TypeId} {cs : Array Value} (h : Blk w g t cs) (hn : g ≠ g') (cs' : Array Value) : Blk (w.setRow g' cs') g t cs := by
  unfold Blk at h ⊢; rw [setRow_other w g' g cs' hn]; exact h
/-- Words that lie from an address on. -/
structure Lies (W : World) (ad : Addr) (ws : List Int) : Prop where
  cells : ∀ j (h : j < ws.length), W.cell? (ad.add j) = some (.int .u64 ws[j])
  lt : ad.block < W.heap.size
theorem add_block (ad : Addr) (j : Nat) : (ad.add j).block = ad.block := by unfold Addr.add; split <;> rfl
theorem Lies.below {W W' : World} {ad : Addr} {ws : List Int} {B : Nat} (h : Lies W ad ws) (k : Below B W W') (hB : ad.block < B) : Lies W' ad ws :=
  ⟨fun j hj => by rw [k.cell (p := ad.add j) (by rw [add_block]; exact hB)]; exact h.cells j hj, Nat.lt_of_lt_of_le h.lt k.size⟩
theorem Lies.later {W W' : World} {ad : Addr} {ws : List Int} (h : Lies W ad ws) (k : Below W.heap.size W W') : Lies W' ad ws := h.below k h.lt
theorem Lies.alloc {W : World} {ad : Addr} {ws : List Int} (h : Lies W ad ws) (o : Obj) : Lies (W.alloc o) ad ws := h.later ((Below.refl _ _).alloc (Nat.le_refl _) _)
theorem Lies.drew {W : World} {ad : Addr} {ws : List Int} (h : Lies W ad ws) : Lies W.drew ad ws := h.later (Below.refl _ _).drew
theorem Lies.ofBlk {W : World} {s : Nat} {ws : List Int} (h : Blk W s 22 (wordsV ws)) : Lies W ⟨s, 0, none⟩ ws :=
  ⟨fun j hj => by rw [addr_add0, h.cell, words_at hj]; simp [List.getD_eq_getElem?_getD, List.getElem?_eq_getElem hj], h.lt⟩
theorem Lies.news {W : World} {ad : Addr} {ws : List Int} (h : Lies W ad ws) : ∀ (j : Nat) (v : Value), (ws.map (Value.int .u64))[j]? = some v → W.cell? (ad.add j) = some v := by
  intro j u hj
  rw [List.getElem?_map] at hj
  have hl : j < ws.length := by
    rcases Nat.lt_or_ge j ws.length with hl | hl
    · exact hl
    · rw [List.getElem?_eq_none hl] at hj; cases hj
  rw [List.getElem?_eq_getElem hl] at hj
  cases hj
  exact h.cells j hl
/-- Words copied over a row of as many. -/
theorem copy_words {w : World} {g n cap : Nat} {s : Addr} {cur : Array Value} {ws : List Int} (ty : TypeId) (hg : Blk w g 22 cur) (hs : Lies w s ws) (hn : ws.length = n) (hc : cur.size = n) :
    (Builtin.copy_ #[25, 25] ty #[.slice (some ⟨g, 0, none⟩) n n, .slice (some s) n cap]).run Try.prog w = .ok (goInt n) (w.setRow g (wordsV ws)) := by
  have h := run_copy_row (P := Try.prog) w 25 25 ty 22 g 0 n n s n cap cur 22 (ws.map (.int .u64)) words_under words_size (by have := hg; unfold Blk at this; exact this) (by simp [hn]) ?_ (by simp [hn, hc]) (by simp [Value.oneCell'])
  · have hd : List.drop n cur.toList = [] := List.drop_eq_nil_of_le (by simp [hc])
    simpa [hn, hc, wordsV, hd] using h
  · exact hs.news

theorem last_c (m wb : Nat) (M : Mem) (W : World) (h : MemAt W m wb M) :
    Calls Try.prog 49 #[.pointer (some ⟨m, 0, none⟩)] W fun e W' => e = .returned (tchV M.last) ∧ Below W.heap.size W W' := by
  have c_B := fun o => (h.alloc o).obj.cell
  unfold memCells at c_B
  go_enter Try.func49, Try.ntmps49
  go_wp2
  have cR := (Blk.new W 83 #[.int .i64 M.last.kind, .int .i64 M.last.sk, .int .i64 M.last.so, .int .u64 M.last.old, .int .u64 M.last.new, .bool M.last.done]).cell
  refine bodyPost_ret (v := tchV M.last) (by simp [results, Try.results49, cR, go_sem, tchV]) rfl ⟨rfl, (Below.refl _ _).alloc (Nat.le_refl _) _⟩
theorem count_c (m wb : Nat) (M : Mem) (W : World) (h : MemAt W m wb M) :
    Calls Try.prog 50 #[.pointer (some ⟨m, 0, none⟩)] W fun e W' => e = .returned (.int .i64 M.many) ∧ W = W' := by
  have c_B := h.obj.cell
  unfold memCells at c_B
  go_enter Try.func50, Try.ntmps50
  go_wp2
  go_ret
  exact ⟨rfl, rfl⟩
theorem cells_c (m wb : Nat) (M : Mem) (W : World) (h : MemAt W m wb M) :
    Calls Try.prog 17 #[.pointer (some ⟨m, 0, none⟩)] W fun e W' => ∃ g, e = .returned (.slice (some ⟨g, 0, none⟩) M.ws.length M.ws.length) ∧ Blk W' g 22 (wordsV M.ws) ∧ Below W.heap.size W W' ∧ W.heap.size ≤ g := by
  have c_B := (h.alloc (.cells (madeCells #[.int .u64 0] M.ws.length) 22)).obj.cell
  have c_A := h.obj.cell
  unfold memCells at c_B c_A
  have hlen : M.ws.length ≤ 100 := by have := h.ok.len; have := Cfg.cell_range h.ok.rt 0 0; omega
  have hmk := fun w => make_words M.ws.length hlen w
  have hcp := copy_words (cap := M.ws.length) 3 (Blk.new W 22 (madeCells #[.int .u64 0] M.ws.length)) (Lies.ofBlk (h.words.alloc _)) rfl (by simp [madeCells])
  go_enter Try.func17, Try.ntmps17
  go_wp2
  go_ret
  exact ⟨_, rfl, blkRow (Blk.new W _ _) _, below_setRow ((Below.refl _ _).alloc (Nat.le_refl _) _) (Nat.le_refl _) _, Nat.le_refl _⟩

def cfgV (c : Cfg) : Value := .agg #[.int .i64 c.T, .int .i64 c.S, .int .i64 c.K, .int .i64 c.G, .int .u64 c.Q]
/-- The words that a world begins with. -/
def Mem.start (c : Cfg) (ws : List Int) : Mem := ⟨c, ws, Tch.none, 0⟩

theorem of_none (c : Cfg) (v : Value) (W : World) (h : ¬ c.Rt) :
    Calls Try.prog 33 #[cfgV c, v] W fun e W' => e = .returned (.tuple #[.pointer none, .int .i64 1]) ∧ Below W.heap.size W W' := by
  have hl : c.lenAny = 0 := by unfold Cfg.lenAny; rw [if_neg h]
  unfold cfgV
  go_enter Try.func33, Try.ntmps33
  go_wp2_with (go_at_call 39; refine (PAgeOldest.len_calls c _).mono ?_; rintro e w1 ⟨rfl, hb⟩; rw [hl])
  go_ret2
  exact ⟨rfl, below_step ((Below.refl _ _).alloc (Nat.le_refl _) _) hb⟩

set_option maxRecDepth 100000 in
theorem of_c (c : Cfg) (ws : List Int) (b : Addr) (cap : Nat) (W : World) (h : c.Rt) (hn : (ws.length : Int) = c.len) (hs : Lies W b ws) (hw : ∀ x ∈ ws, 0 ≤ x ∧ x < 18446744073709551616) :
    Calls Try.prog 33 #[cfgV c, .slice (some b) ws.length cap] W fun e W' => ∃ m wb, e = .returned (.tuple #[.pointer (some ⟨m, 0, none⟩), .int .i64 0]) ∧ MemAt W' m wb (Mem.start c ws) ∧ Below W.heap.size W W' ∧ W.heap.size ≤ m ∧ W.heap.size ≤ wb := by
  have hl : c.lenAny = c.len := by unfold Cfg.lenAny; rw [if_pos h]
  have hr := Cfg.cell_range h 0 0
  have hp : 7 ≤ c.len := by obtain ⟨t1, t2, s1, s2, k1, k2, _⟩ := h; unfold Cfg.len; omega
  have hb1 : (c.len == 0) = false := by simp; omega
  have hb2 : ((ws.length : Int) != c.len) = false := by simp [hn]
  have hlen : ws.length ≤ 100 := by omega
  have hmk : ∀ w : World, (Instr.makeSlice 25 (.int .i64 c.len) (.int .i64 c.len)).run Try.prog w = .ok (.slice (some ⟨w.heap.size, 0, none⟩) ws.length ws.length) (w.alloc (.cells (madeCells #[.int .u64 0] ws.length) 22)) := fun w => by rw [← hn]; exact make_words ws.length hlen w
  have HW := Lib.hid hw
  clear hw
  unfold cfgV
  go_enter Try.func33, Try.ntmps33
  go_wp2_with (go_at_call 39; refine (PAgeOldest.len_calls c _).mono ?_; rintro e w1 ⟨rfl, hb⟩; rw [hl])
  have B1 : Blk w1 W.heap.size 24 #[.int .i64 c.T, .int .i64 c.S, .int .i64 c.K, .int .i64 c.G, .int .u64 c.Q] := (Blk.new W _ _).below hb
  have HS0 := ((hs.alloc (.cells #[.int .i64 c.T, .int .i64 c.S, .int .i64 c.K, .int .i64 c.G, .int .u64 c.Q] 24)).later hb)
  have HS := HS0.drew
  replace B1 := Blk.drew B1
  refine start_ (n := 7) (S := fun w' => Blk w' (W.heap.size) (24) #[.int .i64 c.T, .int .i64 c.S, .int .i64 c.K, .int .i64 c.G, .int .u64 c.Q]) (ds := []) #[false, false, false, false, false, false, false] (by kernel_rfl) rfl rfl (by ((exact got); done)) (fun hHeld => ?_)
  (try clear B1)
  have B1 := hHeld
  refine pure_ (i := 1) (N := (some 19)) (v := ?_) (a' := ?_) #[false, true, false, false, false, false, false] rfl rfl (by kernel_rfl) (fun _ _ _ h => h) (Or.inl ⟨by rfl, ?_⟩) ?_ ?_; rotate_left; (intro w'; go_simp; with_reducible rfl); rotate_left; (simp only [Act.put, List.setIfInBounds_toArray, List.set_cons_zero, List.set_cons_succ]; rfl)
  refine pure_ (i := 2) (N := (some 20)) (v := ?_) (a' := ?_) #[false, true, true, false, false, false, false] rfl rfl (by kernel_rfl) (fun _ _ _ h => h) (Or.inl ⟨by rfl, ?_⟩) ?_ ?_; rotate_left; (intro w'; go_simp; with_reducible rfl); rotate_left; (simp only [Act.put, List.setIfInBounds_toArray, List.set_cons_zero, List.set_cons_succ]; rfl)
  refine take_ (i := 0) (N := (some 18)) (v := ?_) (a' := ?_) #[true, true, true, false, false, false, false] rfl rfl (by kernel_rfl) (fun _ _ _ h => h) (Or.inl ⟨by rfl, ?_⟩) hHeld ?_ ?_; rotate_left; (rintro w' s0; have c_0 := s0.cell; have f_0 := s0.free; go_simp; with_reducible rfl); rotate_left; (simp only [Act.put, List.setIfInBounds_toArray, List.set_cons_zero, List.set_cons_succ]; rfl)
  refine one_ (i := 3) (N := (some 21)) #[true, true, true, true, false, false, false] rfl rfl (by kernel_rfl) (by decide) (fun Kc hK => ?_)
  try clear hHeld
  rw [if_pos (by rfl)]
  go_simp
  replace B1 := Blk.alloc B1 (.cells (madeCells #[.int .u64 0] ws.length) 22)
  refine hK.out _ _ B1 (fun hHeld => ?_)
  clear hK Kc
  refine norm_ (a' := ?_) ?_ ?_; rotate_left; (first | (show Act.put _ (some 21) _ = _; (simp only [Act.put, List.setIfInBounds_toArray, List.set_cons_zero, List.set_cons_succ]; rfl)) | rfl)
  refine pure_ (i := 4) (N := (some 22)) (v := ?_) (a' := ?_) #[true, true, true, true, true, false, false] rfl rfl (by kernel_rfl) (fun _ _ _ h => h) (Or.inl ⟨by rfl, ?_⟩) ?_ ?_; rotate_left; (intro w'; go_simp; with_reducible rfl); rotate_left; (simp only [Act.put, List.setIfInBounds_toArray, List.set_cons_zero, List.set_cons_succ]; rfl)
  refine one_ (i := 5) (N := (some 23)) #[true, true, true, true, true, true, false] rfl rfl (by kernel_rfl) (by decide) (fun Kc hK => ?_)
  try clear hHeld
  rw [if_pos (by rfl)]
  go_simp
  replace B1 := Blk.alloc B1 (.cells (memCells w1.drew.heap.size (Mem.start c ws)) 85)
  refine hK.out _ _ B1 (fun hHeld => ?_)
  clear hK Kc
  refine norm_ (a' := ?_) ?_ ?_; rotate_left; (first | (show Act.put _ (some 23) _ = _; (simp only [Act.put, List.setIfInBounds_toArray, List.set_cons_zero, List.set_cons_succ]; rfl)) | rfl)
  refine pure_ (i := 6) (N := (some 7)) (v := ?_) (a' := ?_) #[true, true, true, true, true, true, true] rfl rfl (by kernel_rfl) (fun _ _ _ h => h) (Or.inl ⟨by rfl, ?_⟩) ?_ ?_; rotate_left; (intro w'; go_simp; with_reducible rfl); rotate_left; (simp only [Act.put, List.setIfInBounds_toArray, List.set_cons_zero, List.set_cons_succ]; rfl)
  try clear hHeld
  refine done_ (by kernel_rfl) ?_
  have hcells : memCells w1.heap.size (Mem.start c ws) = #[.int .i64 c.T, .int .i64 c.S, .int .i64 c.K, .int .i64 c.G, .int .u64 c.Q, .slice (some ⟨w1.heap.size, 0, none⟩) ws.length ws.length, .int .i64 0, .int .i64 0, .int .i64 0, .int .u64 0, .int .u64 0, .bool false, .int .i64 0] := rfl
  rw [← hcells]
  clear hcells B1
  have hobj : Blk ((w1.alloc (.cells (madeCells #[.int .u64 0] ws.length) 22)).alloc (.cells (memCells w1.heap.size (Mem.start c ws)) 85)).drew (w1.heap.size + 1) 85 (memCells w1.heap.size (Mem.start c ws)) := (Blk.newAt _ _ _ _ (by simp)).drew
  have hcur : Blk ((w1.alloc (.cells (madeCells #[.int .u64 0] ws.length) 22)).alloc (.cells (memCells w1.heap.size (Mem.start c ws)) 85)).drew w1.heap.size 22 (madeCells #[.int .u64 0] ws.length) := ((Blk.new _ _ _).alloc _).drew
  have hsrc : Lies ((w1.alloc (.cells (madeCells #[.int .u64 0] ws.length) 22)).alloc (.cells (memCells w1.heap.size (Mem.start c ws)) 85)).drew b ws := ((HS0.alloc _).alloc _).drew
  have hB : Below W.heap.size W ((w1.alloc (.cells (madeCells #[.int .u64 0] ws.length) 22)).alloc (.cells (memCells w1.heap.size (Mem.start c ws)) 85)).drew := by
    have h1 := below_step ((Below.refl _ _).alloc (Nat.le_refl _) _) hb
    have := h1.size
    exact ((h1.alloc this _).alloc (by simp; omega) _).drew
  have hsz : W.heap.size ≤ w1.heap.size := by have := (below_step ((Below.refl _ _).alloc (Nat.le_refl _) _) hb).size; exact this
  generalize ((w1.alloc (.cells (madeCells #[.int .u64 0] ws.length) 22)).alloc (.cells (memCells w1.heap.size (Mem.start c ws)) 85)).drew = w2 at hobj hcur hsrc hB ⊢
  have hcp := copy_words (cap := cap) 3 hcur hsrc rfl (by simp [madeCells])
  have c_B := hobj.cell
  unfold memCells Mem.start at c_B
  go_wp2
  go_ret2
  exact ⟨_, rfl, _, ⟨blkRowFar hobj (by omega) _, blkRow hcur _, ⟨h, hn, HW.out⟩⟩, below_setRow hB hsz _, by omega, hsz⟩

theorem of_n (c : Cfg) (ws : List Int) (n : Nat) (b : Addr) (cap : Nat) (W : World) (h : c.Rt) (hnn : ws.length = n) (hn : (n : Int) = c.len) (hs : Lies W b ws) (hw : ∀ x ∈ ws, 0 ≤ x ∧ x < 18446744073709551616) :
    Calls Try.prog 33 #[cfgV c, .slice (some b) n cap] W fun e W' => ∃ m, e = .returned (.tuple #[.pointer (some ⟨m, 0, none⟩), .int .i64 0]) ∧ ∃ wb, MemAt W' m wb (Mem.start c ws) ∧ Below W.heap.size W W' ∧ W.heap.size ≤ m ∧ W.heap.size ≤ wb := by
  subst hnn
  refine (of_c c ws b cap W h hn hs hw).mono ?_
  rintro e W' ⟨m, wb, he, hM, hr⟩
  exact ⟨m, he, wb, hM, hr⟩

theorem ours_zero (n : Nat) : madeCells #[.int .u64 0] n = wordsV (List.replicate n 0) := by
  apply Array.ext
  · simp [madeCells, wordsV]
  · intro i h1 h2
    simp [madeCells, wordsV]
    rw [Nat.mod_one]
    rfl

set_option maxRecDepth 100000 in
theorem storenew_none (c : Cfg) (W : World) (h : ¬ c.Rt) :
    Calls Try.prog 20 #[cfgV c] W fun e W' => e = .returned (.tuple #[.pointer none, .int .i64 1]) ∧ Below W.heap.size W W' := by
  have hl : c.lenAny = 0 := by unfold Cfg.lenAny; rw [if_neg h]
  have hmk : ∀ w : World, (Instr.makeSlice 25 (.int .i64 0) (.int .i64 0)).run Try.prog w = .ok (.slice (some ⟨w.heap.size, 0, none⟩) 0 0) (w.alloc (.cells (madeCells #[.int .u64 0] 0) 22)) := fun w => make_words 0 (by decide) w
  unfold cfgV
  go_enter Try.func20, Try.ntmps20
  go_wp2_with fail
  have B1 := Blk.new W 24 #[.int .i64 c.T, .int .i64 c.S, .int .i64 c.K, .int .i64 c.G, .int .u64 c.Q]
  have HB := (Below.refl W.heap.size W).alloc (Nat.le_refl _) (.cells #[.int .i64 c.T, .int .i64 c.S, .int .i64 c.K, .int .i64 c.G, .int .u64 c.Q] 24)
  refine begin_ (n := 9) (S := fun w' => Blk w' (W.heap.size) (24) #[.int .i64 c.T, .int .i64 c.S, .int .i64 c.K, .int .i64 c.G, .int .u64 c.Q] ∧ Below W.heap.size W w') (ds := []) #[false, false, false, false, false, false, false, false, false] (by kernel_rfl) rfl rfl ⟨(by ((exact got); done)), (by ((exact gotB); done))⟩ (fun wd hHeld => ?_)
  (try clear B1)
  (try clear HB)
  have ⟨B1, HB⟩ := hHeld
  refine take_ (i := 0) (N := (some 4)) (v := ?_) (a' := ?_) #[true, false, false, false, false, false, false, false, false] rfl rfl (by kernel_rfl) (fun _ _ _ h => h) (Or.inl ⟨by rfl, ?_⟩) hHeld ?_ ?_; rotate_left; (rintro w' ⟨s0, s1⟩; have c_0 := s0.cell; have f_0 := s0.free; go_simp; with_reducible rfl); rotate_left; (simp only [Act.put, List.setIfInBounds_toArray, List.set_cons_zero, List.set_cons_succ]; rfl)
  refine take_ (i := 1) (N := (some 5)) (v := ?_) (a' := ?_) #[true, true, false, false, false, false, false, false, false] rfl rfl (by kernel_rfl) (fun _ _ _ h => h) (Or.inl ⟨by rfl, ?_⟩) hHeld ?_ ?_; rotate_left; (rintro w' ⟨s0, s1⟩; have c_0 := s0.cell; have f_0 := s0.free; go_simp; with_reducible rfl); rotate_left; (simp only [Act.put, List.setIfInBounds_toArray, List.set_cons_zero, List.set_cons_succ]; rfl)
  refine one_ (i := 2) (N := (some 6)) #[true, true, true, false, false, false, false, false, false] rfl rfl (by kernel_rfl) (by decide) (fun Kc hK => ?_)
  try clear hHeld
  refine goes_ Try.func39 (by kernel_rfl) rfl #[.agg #[.int .i64 c.T, .int .i64 c.S, .int .i64 c.K, .int .i64 c.G, .int .u64 c.Q]] (by rfl) rfl rfl (by (try simp only [List.map_toArray, List.map_cons, List.map_nil]); first | done | rfl) ?_
  refine (PAgeOldest.len_calls c _).mono ?_
  rintro e w1 ⟨rfl, hbl⟩
  refine ⟨_, rfl, ?_⟩
  replace B1 := Blk.later hbl B1
  replace HB := below_step HB hbl
  rw [hl]
  refine hK.out _ _ ⟨B1, HB⟩ (fun hHeld => ?_)
  clear hK Kc
  refine norm_ (a' := ?_) ?_ ?_; rotate_left; (first | (show Act.put _ (some 6) _ = _; (simp only [Act.put, List.setIfInBounds_toArray, List.set_cons_zero, List.set_cons_succ]; rfl)) | rfl)
  refine one_ (i := 3) (N := (some 7)) #[true, true, true, true, false, false, false, false, false] rfl rfl (by kernel_rfl) (by decide) (fun Kc hK => ?_)
  try clear hHeld
  rw [if_pos (by rfl)]
  go_simp
  replace B1 := Blk.alloc B1 (.cells (madeCells #[.int .u64 0] 0) 22)
  replace HB := Below.alloc HB HB.size (.cells (madeCells #[.int .u64 0] 0) 22)
  refine hK.out _ _ ⟨B1, HB⟩ (fun hHeld => ?_)
  clear hK Kc
  refine norm_ (a' := ?_) ?_ ?_; rotate_left; (first | (show Act.put _ (some 7) _ = _; (simp only [Act.put, List.setIfInBounds_toArray, List.set_cons_zero, List.set_cons_succ]; rfl)) | rfl)
  refine one_ (i := 4) (N := (some 8)) #[true, true, true, true, true, false, false, false, false] rfl rfl (by kernel_rfl) (by decide) (fun Kc hK => ?_)
  try clear hHeld
  refine goes_ Try.func33 (by kernel_rfl) rfl #[.agg #[.int .i64 c.T, .int .i64 c.S, .int .i64 c.K, .int .i64 c.G, .int .u64 c.Q], .slice (some ⟨w1.heap.size, 0, none⟩) 0 0] (by rfl) rfl rfl (by (try simp only [List.map_toArray, List.map_cons, List.map_nil]); first | done | rfl) ?_
  refine (of_none c _ _ h).mono ?_
  rintro e w2 ⟨rfl, hbl⟩
  refine ⟨_, rfl, ?_⟩
  replace B1 := Blk.later hbl B1
  replace HB := below_step HB hbl
  refine hK.out _ _ ⟨B1, HB⟩ (fun hHeld => ?_)
  clear hK Kc
  refine norm_ (a' := ?_) ?_ ?_; rotate_left; (first | (show Act.put _ (some 8) _ = _; (simp only [Act.put, List.setIfInBounds_toArray, List.set_cons_zero, List.set_cons_succ]; rfl)) | rfl)
  refine pure_ (i := 5) (N := (some 9)) (v := ?_) (a' := ?_) #[true, true, true, true, true, true, false, false, false] rfl rfl (by kernel_rfl) (fun _ _ _ h => h) (Or.inl ⟨by rfl, ?_⟩) ?_ ?_; rotate_left; (intro w'; go_simp; with_reducible rfl); rotate_left; (simp only [Act.put, List.setIfInBounds_toArray, List.set_cons_zero, List.set_cons_succ]; rfl)
  refine pure_ (i := 6) (N := (some 10)) (v := ?_) (a' := ?_) #[true, true, true, true, true, true, true, false, false] rfl rfl (by kernel_rfl) (fun _ _ _ h => h) (Or.inl ⟨by rfl, ?_⟩) ?_ ?_; rotate_left; (intro w'; go_simp; with_reducible rfl); rotate_left; (simp only [Act.put, List.setIfInBounds_toArray, List.set_cons_zero, List.set_cons_succ]; rfl)
  refine pure_ (i := 7) (N := (some 2)) (v := ?_) (a' := ?_) #[true, true, true, true, true, true, true, true, false] rfl rfl (by kernel_rfl) (fun _ _ _ h => h) (Or.inl ⟨by rfl, ?_⟩) ?_ ?_; rotate_left; (intro w'; go_simp; with_reducible rfl); rotate_left; (simp only [Act.put, List.setIfInBounds_toArray, List.set_cons_zero, List.set_cons_succ]; rfl)
  refine pure_ (i := 8) (N := (some 3)) (v := ?_) (a' := ?_) #[true, true, true, true, true, true, true, true, true] rfl rfl (by kernel_rfl) (fun _ _ _ h => h) (Or.inl ⟨by rfl, ?_⟩) ?_ ?_; rotate_left; (intro w'; go_simp; with_reducible rfl); rotate_left; (simp only [Act.put, List.setIfInBounds_toArray, List.set_cons_zero, List.set_cons_succ]; rfl)
  try clear hHeld
  refine done_ (by kernel_rfl) ?_
  go_wp2
  go_ret2
  exact ⟨rfl, HB⟩

set_option maxRecDepth 100000 in
theorem storenew_c (c : Cfg) (W : World) (h : c.Rt) :
    Calls Try.prog 20 #[cfgV c] W fun e W' => ∃ m, e = .returned (.tuple #[.pointer (some ⟨m, 0, none⟩), .int .i64 0]) ∧ ∃ wb, MemAt W' m wb (Mem.start c (List.replicate c.len.toNat 0)) ∧ Below W.heap.size W W' ∧ W.heap.size ≤ m ∧ W.heap.size ≤ wb := by
  have hl : c.lenAny = c.len := by unfold Cfg.lenAny; rw [if_pos h]
  have hr := Cfg.cell_range h 0 0
  have hp : 7 ≤ c.len := by obtain ⟨t1, t2, s1, s2, k1, k2, _⟩ := h; unfold Cfg.len; omega
  obtain ⟨n, hn⟩ : ∃ n : Nat, n = c.len.toNat := ⟨_, rfl⟩
  rw [← hn]
  have hnl : (n : Int) = c.len := by omega
  clear hn
  have hmk : ∀ w : World, (Instr.makeSlice 25 (.int .i64 c.len) (.int .i64 c.len)).run Try.prog w = .ok (.slice (some ⟨w.heap.size, 0, none⟩) n n) (w.alloc (.cells (madeCells #[.int .u64 0] n) 22)) := fun w => by rw [← hnl]; exact make_words n (by omega) w
  unfold cfgV
  go_enter Try.func20, Try.ntmps20
  go_wp2_with fail
  have B1 := Blk.new W 24 #[.int .i64 c.T, .int .i64 c.S, .int .i64 c.K, .int .i64 c.G, .int .u64 c.Q]
  have HB := (Below.refl W.heap.size W).alloc (Nat.le_refl _) (.cells #[.int .i64 c.T, .int .i64 c.S, .int .i64 c.K, .int .i64 c.G, .int .u64 c.Q] 24)
  refine begin_ (n := 9) (S := fun w' => Blk w' (W.heap.size) (24) #[.int .i64 c.T, .int .i64 c.S, .int .i64 c.K, .int .i64 c.G, .int .u64 c.Q] ∧ Below W.heap.size W w') (ds := []) #[false, false, false, false, false, false, false, false, false] (by kernel_rfl) rfl rfl ⟨(by ((exact got); done)), (by ((exact gotB); done))⟩ (fun wd hHeld => ?_)
  (try clear B1)
  (try clear HB)
  have ⟨B1, HB⟩ := hHeld
  refine take_ (i := 0) (N := (some 4)) (v := ?_) (a' := ?_) #[true, false, false, false, false, false, false, false, false] rfl rfl (by kernel_rfl) (fun _ _ _ h => h) (Or.inl ⟨by rfl, ?_⟩) hHeld ?_ ?_; rotate_left; (rintro w' ⟨s0, s1⟩; have c_0 := s0.cell; have f_0 := s0.free; go_simp; with_reducible rfl); rotate_left; (simp only [Act.put, List.setIfInBounds_toArray, List.set_cons_zero, List.set_cons_succ]; rfl)
  refine take_ (i := 1) (N := (some 5)) (v := ?_) (a' := ?_) #[true, true, false, false, false, false, false, false, false] rfl rfl (by kernel_rfl) (fun _ _ _ h => h) (Or.inl ⟨by rfl, ?_⟩) hHeld ?_ ?_; rotate_left; (rintro w' ⟨s0, s1⟩; have c_0 := s0.cell; have f_0 := s0.free; go_simp; with_reducible rfl); rotate_left; (simp only [Act.put, List.setIfInBounds_toArray, List.set_cons_zero, List.set_cons_succ]; rfl)
  refine one_ (i := 2) (N := (some 6)) #[true, true, true, false, false, false, false, false, false] rfl rfl (by kernel_rfl) (by decide) (fun Kc hK => ?_)
  try clear hHeld
  refine goes_ Try.func39 (by kernel_rfl) rfl #[.agg #[.int .i64 c.T, .int .i64 c.S, .int .i64 c.K, .int .i64 c.G, .int .u64 c.Q]] (by rfl) rfl rfl (by (try simp only [List.map_toArray, List.map_cons, List.map_nil]); first | done | rfl) ?_
  refine (PAgeOldest.len_calls c _).mono ?_
  rintro e w1 ⟨rfl, hbl⟩
  refine ⟨_, rfl, ?_⟩
  replace B1 := Blk.later hbl B1
  replace HB := below_step HB hbl
  rw [hl]
  refine hK.out _ _ ⟨B1, HB⟩ (fun hHeld => ?_)
  clear hK Kc
  refine norm_ (a' := ?_) ?_ ?_; rotate_left; (first | (show Act.put _ (some 6) _ = _; (simp only [Act.put, List.setIfInBounds_toArray, List.set_cons_zero, List.set_cons_succ]; rfl)) | rfl)
  refine one_ (i := 3) (N := (some 7)) #[true, true, true, true, false, false, false, false, false] rfl rfl (by kernel_rfl) (by decide) (fun Kc hK => ?_)
  try clear hHeld
  rw [if_pos (by rfl)]
  go_simp
  replace B1 := Blk.alloc B1 (.cells (madeCells #[.int .u64 0] n) 22)
  replace HB := Below.alloc HB HB.size (.cells (madeCells #[.int .u64 0] n) 22)
  have hz1 := HB.size
  refine hK.out _ _ ⟨B1, HB⟩ (fun hHeld => ?_)
  clear hK Kc
  refine norm_ (a' := ?_) ?_ ?_; rotate_left; (first | (show Act.put _ (some 7) _ = _; (simp only [Act.put, List.setIfInBounds_toArray, List.set_cons_zero, List.set_cons_succ]; rfl)) | rfl)
  refine one_ (i := 4) (N := (some 8)) #[true, true, true, true, true, false, false, false, false] rfl rfl (by kernel_rfl) (by decide) (fun Kc hK => ?_)
  try clear hHeld
  refine goes_ Try.func33 (by kernel_rfl) rfl #[.agg #[.int .i64 c.T, .int .i64 c.S, .int .i64 c.K, .int .i64 c.G, .int .u64 c.Q], .slice (some ⟨w1.heap.size, 0, none⟩) n n] (by rfl) rfl rfl (by (try simp only [List.map_toArray, List.map_cons, List.map_nil]); first | done | rfl) ?_
  refine (of_n c (List.replicate n 0) n ⟨w1.heap.size, 0, none⟩ n _ h (by simp) hnl (Lies.ofBlk (by rw [← ours_zero]; exact Blk.new _ _ _)) (by intro x hx; rw [List.eq_of_mem_replicate hx]; decide)).mono ?_
  rintro e w2 ⟨m, rfl, wb, hM, hbl, g1, g2⟩
  refine ⟨_, rfl, ?_⟩
  replace B1 := Blk.later hbl B1
  replace HB := below_step HB hbl
  refine hK.out _ _ ⟨B1, HB⟩ (fun hHeld => ?_)
  clear hK Kc
  refine norm_ (a' := ?_) ?_ ?_; rotate_left; (first | (show Act.put _ (some 8) _ = _; (simp only [Act.put, List.setIfInBounds_toArray, List.set_cons_zero, List.set_cons_succ]; rfl)) | rfl)
  refine pure_ (i := 5) (N := (some 9)) (v := ?_) (a' := ?_) #[true, true, true, true, true, true, false, false, false] rfl rfl (by kernel_rfl) (fun _ _ _ h => h) (Or.inl ⟨by rfl, ?_⟩) ?_ ?_; rotate_left; (intro w'; go_simp; with_reducible rfl); rotate_left; (simp only [Act.put, List.setIfInBounds_toArray, List.set_cons_zero, List.set_cons_succ]; rfl)
  refine pure_ (i := 6) (N := (some 10)) (v := ?_) (a' := ?_) #[true, true, true, true, true, true, true, false, false] rfl rfl (by kernel_rfl) (fun _ _ _ h => h) (Or.inl ⟨by rfl, ?_⟩) ?_ ?_; rotate_left; (intro w'; go_simp; with_reducible rfl); rotate_left; (simp only [Act.put, List.setIfInBounds_toArray, List.set_cons_zero, List.set_cons_succ]; rfl)
  refine pure_ (i := 7) (N := (some 2)) (v := ?_) (a' := ?_) #[true, true, true, true, true, true, true, true, false] rfl rfl (by kernel_rfl) (fun _ _ _ h => h) (Or.inl ⟨by rfl, ?_⟩) ?_ ?_; rotate_left; (intro w'; go_simp; with_reducible rfl); rotate_left; (simp only [Act.put, List.setIfInBounds_toArray, List.set_cons_zero, List.set_cons_succ]; rfl)
  refine pure_ (i := 8) (N := (some 3)) (v := ?_) (a' := ?_) #[true, true, true, true, true, true, true, true, true] rfl rfl (by kernel_rfl) (fun _ _ _ h => h) (Or.inl ⟨by rfl, ?_⟩) ?_ ?_; rotate_left; (intro w'; go_simp; with_reducible rfl); rotate_left; (simp only [Act.put, List.setIfInBounds_toArray, List.set_cons_zero, List.set_cons_succ]; rfl)
  try clear hHeld
  refine done_ (by kernel_rfl) ?_
  go_wp2
  go_ret2
  exact ⟨_, rfl, _, hM, HB, Nat.le_trans hz1 g1, Nat.le_trans hz1 g2⟩
end Go.Proofs.Ytbgdhahdihbpaaa.Store
end

section
namespace Go.Proofs.Ytbgdhahdihbpaaa.Age
open Go.RowKit Go.IntWalk
theorem fld_state (a b : Int) (c d e : Bool) (f g : Int) (w : World) : (Instr.field 88 (.agg #[.int .i64 a, .int .i64 b, .bool c, .bool d, .bool e, .int .i64 f, .int .i64 g]) 1).run Try.prog w = .ok (.int .i64 b) w := by kernel_rfl
end Go.Proofs.Ytbgdhahdihbpaaa.Age
end

section
namespace Go.Proofs.Ytbgdhahdihbpaaa.Age
open Go.RowKit Go.IntWalk Go.Proofs.Ytbgdhahdihbpaaa.Own Go.Proofs.Ytbgdhahdihbpaaa.Model Go.Proofs.Ytbgdhahdihbpaaa.Store Go.Proofs.Ytbgdhahdihbpaaa.Status
open Go.Proofs.YtbgdhahdihbpaaaW.PrintLast
set_option linter.unusedSimpArgs false
set_option linter.unusedVariables false

abbrev LiesAt (b : Addr) (ws : List Int) (w : World) : Prop := Lies w b ws
theorem wat_in {c : Cfg} {ws : List Int} (h : c.Rt) (hn : (ws.length : Int) = c.len) (kind of : Int) (n : Nat) (hc : c.cell kind of = n) : ∃ hl : n < ws.length, (Mem.start c ws).at kind of = ws[n] := by
  have hr := Cfg.cell_range h kind of
  have hl : n < ws.length := by omega
  refine ⟨hl, ?_⟩
  unfold Mem.at
  show (if 0 ≤ c.cell kind of then ws.getD (c.cell kind of).toNat 0 else 0) = _
  rw [hc, if_pos (by omega)]
  simp [List.getD_eq_getElem?_getD, List.getElem?_eq_getElem hl]

theorem addr_at (b : Addr) (hb : b.spot = none) (j : Nat) : b.add j = ⟨b.block, b.off + j, none⟩ := by
  unfold Addr.add
  split
  · rename_i h; subst h; cases b; simp_all
  · rfl
theorem cell_slot {c : Cfg} (h : c.Rt) (kind of : Int) (h4 : 4 ≤ kind) (h7 : kind ≤ 7) (h0 : 0 ≤ of) (h1 : of < c.S) : 0 ≤ c.cell kind of := by
  obtain ⟨t1, t2, _⟩ := h
  unfold Cfg.cell
  repeat' split
  all_goals omega
end Go.Proofs.Ytbgdhahdihbpaaa.Age
end
