/- The machine of layer 15 in plain numbers, and in the heap, and the walks of its functions. Conditions stand in the statements. The walks of an age's steps. Conditions stand in the statements. An age asks for a snapshot; its steps, and how it begins. Conditions stand in the statements. Words laid behind an empty row of one's own. Conditions stand in the statements. The document's memory as a value; its accesses. Conditions stand in the statements. The document's memory begins. Conditions stand in the statements. An age goes on to its end. Conditions stand in the statements. An age that goes on to its end, in plain numbers. Conditions stand in the statements. What the laws of an age say, in plain numbers. Conditions stand in the statements. -/
import Derived.Test.YtbgdhahdihbpaaaPackB
import Derived.Laws.EntriesVeiled
import Derived.Test.YtbgdhahdihbpaaaPackF
import Derived.LoopTactic
section
namespace Go.Proofs.Ytbgdhahdihbpaaa.Age
open Go.RowKit Go.IntWalk Go.Proofs.Ytbgdhahdihbpaaa.Own Go.Proofs.Ytbgdhahdihbpaaa.Model Go.Proofs.Ytbgdhahdihbpaaa.Store Go.Proofs.Ytbgdhahdihbpaaa.Status
set_option linter.unusedSimpArgs false
set_option linter.unusedVariables false

structure AgeS where
  slots : Int
  slot : Int
  number : Int
  at_ : Int
  asks : Bool
  later : Bool
deriving DecidableEq
/-- The next number but one. -/
def nx (at' but : Int) : Int := if at' + 1 = but then at' + 2 else at' + 1
theorem nx_range (at' but : Int) : at' + 1 ≤ nx at' but ∧ nx at' but ≤ at' + 2 := by unfold nx; split <;> omega
def AgeS.passed (a : AgeS) : AgeS := { a with at_ := nx a.at_ a.slot, asks := false }
def AgeS.done (a : AgeS) : Bool := a.later || decide (a.slots ≤ a.at_)
def AgeS.new (slots slot number : Int) : AgeS := AgeS.passed ⟨slots, slot, number, -1, false, false⟩
/-- One step, over some words. -/
def AgeS.step (a : AgeS) (M : Mem) : AgeS × Mem :=
  if a.done = true then (a, M)
  else if a.asks = true then (if M.at 5 a.at_ < a.number then { a with later := true } else a.passed, M.load 5 a.at_)
  else
    let s := partI (M.at 4 a.at_) 27 3
    (if s = 1 then { a with later := true } else if s = 2 ∨ s = 3 then { a with asks := true } else a.passed, M.load 4 a.at_)

def stepV (a : Nat) (A : AgeS) : Value :=
  if A.done = true then .nilFunc else if A.asks = true then .func (.func 64) #[.pointer (some ⟨a, 0, none⟩)] #[] else .func (.func 53) #[.pointer (some ⟨a, 0, none⟩)] #[]
def nextV (k1 k2 k3 : Nat) : Value := .func (.func 52) #[] #[.pointer (some ⟨k1, 0, none⟩), .pointer (some ⟨k2, 0, none⟩), .pointer (some ⟨k3, 0, none⟩)]
/-- The closure that counts. -/
structure NextAt (W : World) (k1 k2 k3 : Nat) (at' slot slots : Int) : Prop where
  b1 : Blk W k1 3 #[.int .i64 at']
  b2 : Blk W k2 3 #[.int .i64 slot]
  b3 : Blk W k3 3 #[.int .i64 slots]
  n12 : k1 ≠ k2
  n13 : k1 ≠ k3
structure AgeAt (W : World) (a k1 k2 k3 : Nat) (A : AgeS) : Prop where
  obj : Blk W a 79 #[stepV a A, nextV k1 k2 k3, .int .i64 A.at_, .int .u64 A.number, .bool A.later]
  next : NextAt W k1 k2 k3 A.at_ A.slot A.slots
  small : A.at_ ≤ 1000
  low : -1 ≤ A.at_

theorem next_c (k1 k2 k3 : Nat) (at' slot slots : Int) (W : World) (h : NextAt W k1 k2 k3 at' slot slots) (h0 : -1 ≤ at') (h1 : at' ≤ 1000) :
    Calls Try.prog 52 #[.pointer (some ⟨k1, 0, none⟩), .pointer (some ⟨k2, 0, none⟩), .pointer (some ⟨k3, 0, none⟩)] W
      fun e W' => e = .returned (.tuple #[.int .i64 (nx at' slot), .bool (decide (nx at' slot < slots))]) ∧ NextAt W' k1 k2 k3 (nx at' slot) slot slots ∧ Keep (fun i => i = k1) W W' := by
  obtain ⟨B1, B2, B3, n12, n13⟩ := h
  have c1 := B1.cell 0
  have c2 := B2.cell 0
  have c3 := B3.cell 0
  have f1 := B1.free
  simp at c1 c2 c3
  have m12 := n12.symm
  have m13 := n13.symm
  have c_1 := c1
  by_cases hs : at' + 1 = slot
  · have hb : (at' + 1 == slot) = true := by simpa using hs
    have hx : nx at' slot = at' + 2 := by unfold nx; rw [if_pos hs]
    have HS := Lib.hid hs
    have HX := Lib.hid hx
    clear hs hx
    go_enter Try.func52, Try.ntmps52
    go_wp2
    go_quiet (fail)
    go_wp2
    go_ret2
    have hs := HS.out
    have hx := HX.out
    rw [hx]
    subst hs
    have e : at' + 1 + 1 = at' + 2 := by omega
    refine ⟨by rw [← e]; rfl, ⟨?_, ?_, ?_, n12, n13⟩, ?_⟩
    · have := ((B1.set 0 (.int .i64 (at' + 1))).set 0 (.int .i64 (at' + 1 + 1))).drewN nq
      rw [e] at this ⊢
      simpa using this
    · exact ((B2.far m12 _).far m12 _).drewN _
    · exact ((B3.far m13 _).far m13 _).drewN _
    · refine Keep.drewN (Keep.setCell (Keep.setCell (Keep.refl _ _) ?_ _) ?_ _) _ <;> (intro _; rfl)
  · have hb : (at' + 1 == slot) = false := by simpa using hs
    have hx : nx at' slot = at' + 1 := by unfold nx; rw [if_neg hs]
    have HX := Lib.hid hx
    clear hs hx
    go_enter Try.func52, Try.ntmps52
    go_wp2
    go_quiet (fail)
    go_wp2
    go_ret2
    rw [HX.out]
    refine ⟨rfl, ⟨?_, ?_, ?_, n12, n13⟩, ?_⟩
    · have := (B1.set 0 (.int .i64 (at' + 1))).drewN nq
      simpa using this
    · exact (B2.far m12 _).drewN _
    · exact (B3.far m13 _).drewN _
    · refine Keep.drewN (Keep.setCell (Keep.refl _ _) ?_ _) _; intro _; rfl

theorem NextAt.keep {W W' : World} {k1 k2 k3 : Nat} {at' slot slots : Int} {S : Nat → Prop} (h : NextAt W k1 k2 k3 at' slot slots) (k : Keep S W W') (h1 : ¬ S k1) (h2 : ¬ S k2) (h3 : ¬ S k3) : NextAt W' k1 k2 k3 at' slot slots :=
  ⟨h.b1.keep k h1, h.b2.keep k h2, h.b3.keep k h3, h.n12, h.n13⟩
theorem NextAt.later {W W' : World} {k1 k2 k3 : Nat} {at' slot slots : Int} (h : NextAt W k1 k2 k3 at' slot slots) (k : Below W.heap.size W W') : NextAt W' k1 k2 k3 at' slot slots :=
  ⟨h.b1.below k, h.b2.below k, h.b3.below k, h.n12, h.n13⟩
theorem NextAt.far {W : World} {k1 k2 k3 : Nat} {at' slot slots : Int} (h : NextAt W k1 k2 k3 at' slot slots) {p : Addr} (h1 : k1 ≠ p.block) (h2 : k2 ≠ p.block) (h3 : k3 ≠ p.block) (u : Value) : NextAt (W.setCell p u) k1 k2 k3 at' slot slots :=
  ⟨h.b1.far h1 u, h.b2.far h2 u, h.b3.far h3 u, h.n12, h.n13⟩

theorem goes_c (a k1 k2 k3 : Nat) (sv : Value) (o : Int) (A : AgeS) (W : World) (B : Blk W a 79 #[sv, nextV k1 k2 k3, .int .i64 o, .int .u64 A.number, .bool A.later]) (h : NextAt W k1 k2 k3 A.at_ A.slot A.slots) (h0 : -1 ≤ A.at_) (h1 : A.at_ ≤ 900) (hl : A.later = false) :
    Calls Try.prog 36 #[.pointer (some ⟨a, 0, none⟩)] W
      fun e W' => e = .returned (.tuple #[]) ∧ AgeAt W' a k1 k2 k3 A.passed ∧ Keep (fun i => i = a ∨ i = k1) W W' := by
  have n1 : a ≠ k1 := B.ne h.b1 (by decide)
  have n2 : a ≠ k2 := B.ne h.b2 (by decide)
  have n3 : a ≠ k3 := B.ne h.b3 (by decide)
  have hr := nx_range A.at_ A.slot
  unfold nextV at B
  have c_B := B.cell
  have f_B := B.free
  by_cases hd : nx A.at_ A.slot < A.slots
  · have hb : decide (nx A.at_ A.slot < A.slots) = true := by simpa using hd
    have hv : stepV a A.passed = .func (.func 53) #[.pointer (some ⟨a, 0, none⟩)] #[] := by
      unfold stepV AgeS.done AgeS.passed; simp [hl]; omega
    have HV := Lib.hid hv
    clear hv
    have HD := Lib.hid hd
    clear hd
    go_enter Try.func36, Try.ntmps36
    go_wp2_with (go_at_call 52; refine (next_c _ _ _ _ _ _ _ h h0 (by omega)).mono ?_; rintro e w1 ⟨rfl, hn, hk⟩; have B1 := B.keep hk n1; clear c_B f_B; have c_B := B1.cell; have f_B := B1.free)
    go_end0
    refine ⟨rfl, ⟨?_, (hn.far n1.symm n2.symm n3.symm _).far n1.symm n2.symm n3.symm _, ?_, ?_⟩, ?_⟩
    · have := (B1.set 2 (.int .i64 (nx A.at_ A.slot))).set 0 (.func (.func 53) #[.pointer (some ⟨a, 0, none⟩)] #[])
      rw [HV.out]; unfold nextV AgeS.passed
      simpa using this
    · show nx A.at_ A.slot ≤ 1000; omega
    · show -1 ≤ nx A.at_ A.slot; omega
    · refine Keep.setCell (Keep.setCell (hk.mono (fun i _ e => .inr e)) ?_ _) ?_ _ <;> (intro _; exact .inl rfl)
  · have hb : decide (nx A.at_ A.slot < A.slots) = false := by simpa using hd
    have hv : stepV a A.passed = .nilFunc := by
      unfold stepV AgeS.done AgeS.passed; simp [hl]; omega
    have HV := Lib.hid hv
    clear hv
    have HD := Lib.hid hd
    clear hd
    go_enter Try.func36, Try.ntmps36
    go_wp2_with (go_at_call 52; refine (next_c _ _ _ _ _ _ _ h h0 (by omega)).mono ?_; rintro e w1 ⟨rfl, hn, hk⟩; have B1 := B.keep hk n1; clear c_B f_B; have c_B := B1.cell; have f_B := B1.free)
    go_end0
    refine ⟨rfl, ⟨?_, ((hn.far n1.symm n2.symm n3.symm _).far n1.symm n2.symm n3.symm _).far n1.symm n2.symm n3.symm _, ?_, ?_⟩, ?_⟩
    · have := ((B1.set 2 (.int .i64 (nx A.at_ A.slot))).set 0 (.func (.func 53) #[.pointer (some ⟨a, 0, none⟩)] #[])).set 0 .nilFunc
      rw [HV.out]; unfold nextV AgeS.passed
      simpa using this
    · show nx A.at_ A.slot ≤ 1000; omega
    · show -1 ≤ nx A.at_ A.slot; omega
    · refine Keep.setCell (Keep.setCell (Keep.setCell (hk.mono (fun i _ e => .inr e)) ?_ _) ?_ _) ?_ _ <;> (intro _; exact .inl rfl)

theorem ends_c (a k1 k2 k3 : Nat) (sv : Value) (A : AgeS) (W : World) (B : Blk W a 79 #[sv, nextV k1 k2 k3, .int .i64 A.at_, .int .u64 A.number, .bool A.later]) (h : NextAt W k1 k2 k3 A.at_ A.slot A.slots) (h0 : -1 ≤ A.at_) (h1 : A.at_ ≤ 900) :
    Calls Try.prog 63 #[.pointer (some ⟨a, 0, none⟩)] W
      fun e W' => e = .returned (.tuple #[]) ∧ AgeAt W' a k1 k2 k3 { A with later := true } ∧ Keep (fun i => i = a) W W' := by
  have n1 : a ≠ k1 := B.ne h.b1 (by decide)
  have n2 : a ≠ k2 := B.ne h.b2 (by decide)
  have n3 : a ≠ k3 := B.ne h.b3 (by decide)
  have c_B := B.cell
  have f_B := B.free
  go_enter Try.func63, Try.ntmps63
  go_wp2
  go_end0
  refine ⟨rfl, ⟨?_, (h.far n1.symm n2.symm n3.symm _).far n1.symm n2.symm n3.symm _, ?_, h0⟩, ?_⟩
  · have := (B.set 4 (.bool true)).set 0 .nilFunc
    simpa [stepV, AgeS.done] using this
  · show A.at_ ≤ 1000; omega
  · refine Keep.setCell (Keep.setCell (Keep.refl _ _) ?_ _) ?_ _ <;> (intro _; rfl)
end Go.Proofs.Ytbgdhahdihbpaaa.Age
end

section
namespace Go.Proofs.Ytbgdhahdihbpaaa.Age
open Go.RowKit Go.IntWalk Go.Proofs.Ytbgdhahdihbpaaa.Own Go.Proofs.Ytbgdhahdihbpaaa.Model Go.Proofs.Ytbgdhahdihbpaaa.Store Go.Proofs.Ytbgdhahdihbpaaa.Status
set_option linter.unusedSimpArgs false
set_option linter.unusedVariables false

theorem AgeAt.keep {W W' : World} {a k1 k2 k3 : Nat} {A : AgeS} {S : Nat → Prop} (h : AgeAt W a k1 k2 k3 A) (k : Keep S W W') (h0 : ¬ S a) (h1 : ¬ S k1) (h2 : ¬ S k2) (h3 : ¬ S k3) : AgeAt W' a k1 k2 k3 A := ⟨h.obj.keep k h0, h.next.keep k h1 h2 h3, h.small, h.low⟩
theorem AgeAt.later {W W' : World} {a k1 k2 k3 : Nat} {A : AgeS} (h : AgeAt W a k1 k2 k3 A) (k : Below W.heap.size W W') : AgeAt W' a k1 k2 k3 A := ⟨h.obj.below k, h.next.later k, h.small, h.low⟩
/-- An age and a memory share nothing. -/
theorem AgeAt.apart {W : World} {a k1 k2 k3 m wb : Nat} {A : AgeS} {M : Mem} (h : AgeAt W a k1 k2 k3 A) (hm : MemAt W m wb M) : (¬ (a = m ∨ a = wb)) ∧ (¬ (k1 = m ∨ k1 = wb)) ∧ (¬ (k2 = m ∨ k2 = wb)) ∧ (¬ (k3 = m ∨ k3 = wb)) := by
  have d1 := h.obj.ne hm.obj (by decide)
  have d2 := h.obj.ne hm.words (by decide)
  have e1 := h.next.b1.ne hm.obj (by decide)
  have e2 := h.next.b1.ne hm.words (by decide)
  have f1 := h.next.b2.ne hm.obj (by decide)
  have f2 := h.next.b2.ne hm.words (by decide)
  have g1 := h.next.b3.ne hm.obj (by decide)
  have g2 := h.next.b3.ne hm.words (by decide)
  exact ⟨fun x => x.elim d1 d2, fun x => x.elim e1 e2, fun x => x.elim f1 f2, fun x => x.elim g1 g2⟩

theorem nil_nil (w : World) : Sem.run Try.prog (binOp .eql 68 .nilFunc .nilFunc) w = .ok (.bool true) w := by kernel_rfl
theorem fn_nil (f : Fn) (c d : Array Value) (w : World) : Sem.run Try.prog (binOp .eql 68 (.func f c d) .nilFunc) w = .ok (.bool false) w := by kernel_rfl
theorem nil_nilN (w : World) : Sem.run Try.prog (binOp .neq 68 .nilFunc .nilFunc) w = .ok (.bool false) w := by kernel_rfl
theorem fn_nilN (f : Fn) (c d : Array Value) (w : World) : Sem.run Try.prog (binOp .neq 68 (.func f c d) .nilFunc) w = .ok (.bool true) w := by kernel_rfl
theorem done_c (a k1 k2 k3 : Nat) (A : AgeS) (W : World) (h : AgeAt W a k1 k2 k3 A) :
    Calls Try.prog 15 #[.pointer (some ⟨a, 0, none⟩)] W fun e W' => e = .returned (.bool A.done) ∧ W = W' := by
  have B := h.obj
  have e1 := nil_nil
  have e2 := fn_nil
  unfold stepV at B
  by_cases hd : A.done = true
  · rw [if_pos hd] at B
    have c_B := B.cell
    have HD := Lib.hid hd
    clear hd
    go_enter Try.func15, Try.ntmps15
    go_wp2
    go_ret
    exact ⟨by rw [HD.out]; rfl, rfl⟩
  · rw [if_neg hd] at B
    have HD := Lib.hid hd
    clear hd
    by_cases ha : A.asks = true
    · rw [if_pos ha] at B
      have c_B := B.cell
      clear ha
      go_enter Try.func15, Try.ntmps15
      go_wp2
      go_ret
      exact ⟨by rw [Bool.eq_false_iff.2 HD.out]; rfl, rfl⟩
    · rw [if_neg ha] at B
      have c_B := B.cell
      clear ha
      go_enter Try.func15, Try.ntmps15
      go_wp2
      go_ret
      exact ⟨by rw [Bool.eq_false_iff.2 HD.out]; rfl, rfl⟩
theorem later_c (a k1 k2 k3 : Nat) (A : AgeS) (W : World) (h : AgeAt W a k1 k2 k3 A) :
    Calls Try.prog 30 #[.pointer (some ⟨a, 0, none⟩)] W fun e W' => e = .returned (.bool A.later) ∧ W = W' := by
  have c_B := h.obj.cell
  go_enter Try.func30, Try.ntmps30
  go_wp2
  go_ret
  exact ⟨rfl, rfl⟩

theorem look_c (a k1 k2 k3 m wb : Nat) (A : AgeS) (M : Mem) (W : World) (h : AgeAt W a k1 k2 k3 A) (hm : MemAt W m wb M) (hd : A.done = false) (ha : A.asks = false) (hs : A.slots ≤ 900) :
    Calls Try.prog 53 #[.pointer (some ⟨a, 0, none⟩), .pointer (some ⟨m, 0, none⟩)] W
      fun e W' => e = .returned (.tuple #[]) ∧ AgeAt W' a k1 k2 k3 (A.step M).1 ∧ MemAt W' m wb (A.step M).2 ∧ Keep (fun i => i = a ∨ i = k1 ∨ i = m ∨ i = wb) W W' := by
  have hl : A.later = false := by unfold AgeS.done at hd; revert hd; cases A.later <;> simp
  have hlt : A.at_ < A.slots := by unfold AgeS.done at hd; rw [hl] at hd; simp at hd; exact hd
  have hlow := h.low
  have hst : A.step M = (if partI (M.at 4 A.at_) 27 3 = 1 then { A with later := true } else if partI (M.at 4 A.at_) 27 3 = 2 ∨ partI (M.at 4 A.at_) 27 3 = 3 then { A with asks := true } else A.passed, M.load 4 A.at_) := by
    unfold AgeS.step; rw [if_neg (by rw [hd]; simp), if_neg (by rw [ha]; simp)]
  have HST := Lib.hid hst
  have HW := Lib.hid (M.at_range hm.ok 4 A.at_)
  obtain ⟨p0, p1, p2, p3⟩ := h.apart hm
  have B := h.obj
  have c_B := B.cell
  have hfld := fld_state
  have HL := Lib.hid hl
  have HDD := Lib.hid hd
  have HA := Lib.hid ha
  clear hst hl hd ha
  have calls : True := trivial
  by_cases s1 : partI (M.at 4 A.at_) 27 3 = 1
  · have b1 : (partI (M.at 4 A.at_) 27 3 == 1) = true := by simpa using s1
    have S1 := Lib.hid s1
    clear s1
    go_enter Try.func53, Try.ntmps53
    go_wp2_with (first
      | (go_at_call 62; refine (load_c _ _ _ _ _ _ hm).mono ?_; rintro e w1 ⟨rfl, hm1, hk1⟩; have h1 := h.keep hk1 p0 p1 p2 p3; clear c_B)
      | (go_at_call 42; refine (unpack_c _ _ HW.out.1 HW.out.2).mono ?_; rintro e w2 ⟨rfl, hb2⟩; unfold statusV; have h2 := h1.later hb2; have hm2 := hm1.later hb2; have c_B := h2.obj.cell; have f_B := h2.obj.free)
      | (go_at_call 63; refine (ends_c _ _ _ _ _ _ _ h2.obj h2.next h2.low (by omega)).mono ?_; rintro e w3 ⟨rfl, h3, hk3⟩; have hm3 := hm2.keep hk3 (fun e => p0 (.inl e.symm)) (fun e => p0 (.inr e.symm)))
      | (go_at_call 36; refine (goes_c _ _ _ _ _ _ _ _ h2.obj h2.next h2.low (by omega) HL.out).mono ?_; rintro e w3 ⟨rfl, h3, hk3⟩; have hm3 := hm2.keep hk3 (fun e => e.elim (fun e => p0 (.inl e.symm)) (fun e => p1 (.inl e.symm))) (fun e => e.elim (fun e => p0 (.inr e.symm)) (fun e => p1 (.inr e.symm)))))
    go_end0
    rw [HST.out, if_pos S1.out]
    exact ⟨rfl, h3, hm3, (((hk1.mono (fun i _ e => .inr (.inr e))).trans (Keep.ofBelow hb2 _)).trans (hk3.mono (fun i _ e => .inl e)))⟩
  · have b1 : (partI (M.at 4 A.at_) 27 3 == 1) = false := by simpa using s1
    by_cases s2 : partI (M.at 4 A.at_) 27 3 = 2
    · have b2 : (partI (M.at 4 A.at_) 27 3 == 2) = true := by simpa using s2
      have S1 := Lib.hid s1
      have S2 := Lib.hid s2
      clear s1 s2
      go_enter Try.func53, Try.ntmps53
      go_wp2_with (first
        | (go_at_call 62; refine (load_c _ _ _ _ _ _ hm).mono ?_; rintro e w1 ⟨rfl, hm1, hk1⟩; have h1 := h.keep hk1 p0 p1 p2 p3; clear c_B)
        | (go_at_call 42; refine (unpack_c _ _ HW.out.1 HW.out.2).mono ?_; rintro e w2 ⟨rfl, hb2⟩; unfold statusV; have h2 := h1.later hb2; have hm2 := hm1.later hb2; have c_B := h2.obj.cell; have f_B := h2.obj.free)
        | (go_at_call 63; refine (ends_c _ _ _ _ _ _ _ h2.obj h2.next h2.low (by omega)).mono ?_; rintro e w3 ⟨rfl, h3, hk3⟩; have hm3 := hm2.keep hk3 (fun e => p0 (.inl e.symm)) (fun e => p0 (.inr e.symm)))
        | (go_at_call 36; refine (goes_c _ _ _ _ _ _ _ _ h2.obj h2.next h2.low (by omega) HL.out).mono ?_; rintro e w3 ⟨rfl, h3, hk3⟩; have hm3 := hm2.keep hk3 (fun e => e.elim (fun e => p0 (.inl e.symm)) (fun e => p1 (.inl e.symm))) (fun e => e.elim (fun e => p0 (.inr e.symm)) (fun e => p1 (.inr e.symm)))))
      go_end0
      rw [HST.out, if_neg S1.out, if_pos (.inl S2.out)]
      have B2 := h2.obj
      have q1 : k1 ≠ a := fun e => absurd e.symm (h2.obj.ne h2.next.b1 (by decide))
      have q2 : k2 ≠ a := fun e => absurd e.symm (h2.obj.ne h2.next.b2 (by decide))
      have q3 : k3 ≠ a := fun e => absurd e.symm (h2.obj.ne h2.next.b3 (by decide))
      refine ⟨rfl, ⟨?_, h2.next.far q1 q2 q3 _, h2.small, h2.low⟩, hm2.far (fun e => p0 (.inl e.symm)) (fun e => p0 (.inr e.symm)) _, ?_⟩
      · have B3 := B2.set 0 (.func (.func 64) #[.pointer (some ⟨a, 0, none⟩)] #[])
        have hv : stepV a { A with asks := true } = .func (.func 64) #[.pointer (some ⟨a, 0, none⟩)] #[] := by
          unfold stepV; rw [if_neg (by have := HDD.out; unfold AgeS.done at this ⊢; simp only at this ⊢; rw [this]; simp), if_pos rfl]
        rw [hv]
        simpa using B3
      · exact Keep.setCell ((hk1.mono (fun i _ e => .inr (.inr e))).trans (Keep.ofBelow hb2 _)) (fun _ => .inl rfl) _
    · have b2 : (partI (M.at 4 A.at_) 27 3 == 2) = false := by simpa using s2
      by_cases s3 : partI (M.at 4 A.at_) 27 3 = 3
      · have b3 : (partI (M.at 4 A.at_) 27 3 == 3) = true := by simpa using s3
        have S1 := Lib.hid s1
        have S3 := Lib.hid s3
        clear s1 s2 s3
        go_enter Try.func53, Try.ntmps53
        go_wp2_with (first
          | (go_at_call 62; refine (load_c _ _ _ _ _ _ hm).mono ?_; rintro e w1 ⟨rfl, hm1, hk1⟩; have h1 := h.keep hk1 p0 p1 p2 p3; clear c_B)
          | (go_at_call 42; refine (unpack_c _ _ HW.out.1 HW.out.2).mono ?_; rintro e w2 ⟨rfl, hb2⟩; unfold statusV; have h2 := h1.later hb2; have hm2 := hm1.later hb2; have c_B := h2.obj.cell; have f_B := h2.obj.free)
          | (go_at_call 63; refine (ends_c _ _ _ _ _ _ _ h2.obj h2.next h2.low (by omega)).mono ?_; rintro e w3 ⟨rfl, h3, hk3⟩; have hm3 := hm2.keep hk3 (fun e => p0 (.inl e.symm)) (fun e => p0 (.inr e.symm)))
          | (go_at_call 36; refine (goes_c _ _ _ _ _ _ _ _ h2.obj h2.next h2.low (by omega) HL.out).mono ?_; rintro e w3 ⟨rfl, h3, hk3⟩; have hm3 := hm2.keep hk3 (fun e => e.elim (fun e => p0 (.inl e.symm)) (fun e => p1 (.inl e.symm))) (fun e => e.elim (fun e => p0 (.inr e.symm)) (fun e => p1 (.inr e.symm)))))
        go_end0
        rw [HST.out, if_neg S1.out, if_pos (.inr S3.out)]
        have B2 := h2.obj
        have q1 : k1 ≠ a := fun e => absurd e.symm (h2.obj.ne h2.next.b1 (by decide))
        have q2 : k2 ≠ a := fun e => absurd e.symm (h2.obj.ne h2.next.b2 (by decide))
        have q3 : k3 ≠ a := fun e => absurd e.symm (h2.obj.ne h2.next.b3 (by decide))
        refine ⟨rfl, ⟨?_, h2.next.far q1 q2 q3 _, h2.small, h2.low⟩, hm2.far (fun e => p0 (.inl e.symm)) (fun e => p0 (.inr e.symm)) _, ?_⟩
        · have B3 := B2.set 0 (.func (.func 64) #[.pointer (some ⟨a, 0, none⟩)] #[])
          have hv : stepV a { A with asks := true } = .func (.func 64) #[.pointer (some ⟨a, 0, none⟩)] #[] := by
            unfold stepV; rw [if_neg (by have := HDD.out; unfold AgeS.done at this ⊢; simp only at this ⊢; rw [this]; simp), if_pos rfl]
          rw [hv]
          simpa using B3
        · exact Keep.setCell ((hk1.mono (fun i _ e => .inr (.inr e))).trans (Keep.ofBelow hb2 _)) (fun _ => .inl rfl) _
      · have b3 : (partI (M.at 4 A.at_) 27 3 == 3) = false := by simpa using s3
        have S1 := Lib.hid s1
        have S2 := Lib.hid (show ¬ (partI (M.at 4 A.at_) 27 3 = 2 ∨ partI (M.at 4 A.at_) 27 3 = 3) from fun e => e.elim s2 s3)
        clear s1 s2 s3
        go_enter Try.func53, Try.ntmps53
        go_wp2_with (first
          | (go_at_call 62; refine (load_c _ _ _ _ _ _ hm).mono ?_; rintro e w1 ⟨rfl, hm1, hk1⟩; have h1 := h.keep hk1 p0 p1 p2 p3; clear c_B)
          | (go_at_call 42; refine (unpack_c _ _ HW.out.1 HW.out.2).mono ?_; rintro e w2 ⟨rfl, hb2⟩; unfold statusV; have h2 := h1.later hb2; have hm2 := hm1.later hb2; have c_B := h2.obj.cell; have f_B := h2.obj.free)
          | (go_at_call 63; refine (ends_c _ _ _ _ _ _ _ h2.obj h2.next h2.low (by omega)).mono ?_; rintro e w3 ⟨rfl, h3, hk3⟩; have hm3 := hm2.keep hk3 (fun e => p0 (.inl e.symm)) (fun e => p0 (.inr e.symm)))
          | (go_at_call 36; refine (goes_c _ _ _ _ _ _ _ _ h2.obj h2.next h2.low (by omega) HL.out).mono ?_; rintro e w3 ⟨rfl, h3, hk3⟩; have hm3 := hm2.keep hk3 (fun e => e.elim (fun e => p0 (.inl e.symm)) (fun e => p1 (.inl e.symm))) (fun e => e.elim (fun e => p0 (.inr e.symm)) (fun e => p1 (.inr e.symm)))))
        go_end0
        rw [HST.out, if_neg S1.out, if_neg S2.out]
        exact ⟨rfl, h3, hm3, (((hk1.mono (fun i _ e => .inr (.inr e))).trans (Keep.ofBelow hb2 _)).trans (hk3.mono (fun i _ e => e.elim .inl (fun e => .inr (.inl e)))))⟩

end Go.Proofs.Ytbgdhahdihbpaaa.Age
end

section
namespace Go.Proofs.Ytbgdhahdihbpaaa.Age
open Go.RowKit Go.IntWalk Go.Proofs.Ytbgdhahdihbpaaa.Own Go.Proofs.Ytbgdhahdihbpaaa.Model Go.Proofs.Ytbgdhahdihbpaaa.Store Go.Proofs.Ytbgdhahdihbpaaa.Status
open Go.Proofs.YtbgdhahdihbpaaaW.PrintLast
set_option linter.unusedSimpArgs false
set_option linter.unusedVariables false

theorem AgeAt.drew {W : World} {a k1 k2 k3 : Nat} {A : AgeS} (h : AgeAt W a k1 k2 k3 A) : AgeAt W.drew a k1 k2 k3 A := ⟨h.obj.drew, ⟨h.next.b1.drew, h.next.b2.drew, h.next.b3.drew, h.next.n12, h.next.n13⟩, h.small, h.low⟩

theorem snapshot_c (a k1 k2 k3 m wb : Nat) (A : AgeS) (M : Mem) (W : World) (h : AgeAt W a k1 k2 k3 A) (hm : MemAt W m wb M) (hd : A.done = false) (ha : A.asks = true) (hs : A.slots ≤ 900) :
    Calls Try.prog 64 #[.pointer (some ⟨a, 0, none⟩), .pointer (some ⟨m, 0, none⟩)] W
      fun e W' => e = .returned (.tuple #[]) ∧ AgeAt W' a k1 k2 k3 (A.step M).1 ∧ MemAt W' m wb (A.step M).2 ∧ Keep (fun i => i = a ∨ i = k1 ∨ i = m ∨ i = wb) W W' := by
  have hl : A.later = false := by unfold AgeS.done at hd; revert hd; cases A.later <;> simp
  have hlt : A.at_ < A.slots := by unfold AgeS.done at hd; rw [hl] at hd; simp at hd; exact hd
  have hlow := h.low
  have hst : A.step M = (if M.at 5 A.at_ < A.number then { A with later := true } else A.passed, M.load 5 A.at_) := by
    unfold AgeS.step; rw [if_neg (by rw [hd]; simp), if_pos ha]
  have HST := Lib.hid hst
  obtain ⟨p0, p1, p2, p3⟩ := h.apart hm
  have hsv : stepV a A = .func (.func 64) #[.pointer (some ⟨a, 0, none⟩)] #[] := by unfold stepV; rw [if_neg (by rw [hd]; simp), if_pos ha]
  have B := h.obj
  rw [hsv] at B
  have HL := Lib.hid hl
  have HDD := Lib.hid hd
  have HA := Lib.hid ha
  clear hst hl hd ha
  by_cases s1 : M.at 5 A.at_ < A.number
  · have b1 : decide (M.at 5 A.at_ < A.number) = true := by simpa using s1
    have S1 := Lib.hid s1
    clear s1
    go_enter Try.func64, Try.ntmps64
    go_wp2_with fail
    replace hm := MemAt.drew hm
    refine start_ (n := 12) (S := fun w' => Blk w' (a) (79) #[.func (.func 64) #[.pointer (some ⟨a, 0, none⟩)] #[], nextV k1 k2 k3, .int .i64 A.at_, .int .u64 A.number, .bool A.later]) (ds := []) #[false, false, false, false, false, false, false, false, false, false, false, false] (by kernel_rfl) rfl rfl (by ((exact got); done)) (fun hHeld => ?_)
    (try clear B)
    have B := hHeld
    refine pure_ (i := 0) (N := (some 4)) (v := ?_) (a' := ?_) #[true, false, false, false, false, false, false, false, false, false, false, false] rfl rfl (by kernel_rfl) (fun _ _ _ h => h) (Or.inl ⟨by rfl, ?_⟩) ?_ ?_; rotate_left; (intro w'; go_simp; with_reducible rfl); rotate_left; (simp only [Act.put, List.setIfInBounds_toArray, List.set_cons_zero, List.set_cons_succ]; rfl)
    refine pure_ (i := 1) (N := (some 5)) (v := ?_) (a' := ?_) #[true, true, false, false, false, false, false, false, false, false, false, false] rfl rfl (by kernel_rfl) (fun _ _ _ h => h) (Or.inl ⟨by rfl, ?_⟩) ?_ ?_; rotate_left; (intro w'; go_simp; with_reducible rfl); rotate_left; (simp only [Act.put, List.setIfInBounds_toArray, List.set_cons_zero, List.set_cons_succ]; rfl)
    refine pure_ (i := 2) (N := (some 6)) (v := ?_) (a' := ?_) #[true, true, true, false, false, false, false, false, false, false, false, false] rfl rfl (by kernel_rfl) (fun _ _ _ h => h) (Or.inl ⟨by rfl, ?_⟩) ?_ ?_; rotate_left; (intro w'; go_simp; with_reducible rfl); rotate_left; (simp only [Act.put, List.setIfInBounds_toArray, List.set_cons_zero, List.set_cons_succ]; rfl)
    refine pure_ (i := 3) (N := (some 7)) (v := ?_) (a' := ?_) #[true, true, true, true, false, false, false, false, false, false, false, false] rfl rfl (by kernel_rfl) (fun _ _ _ h => h) (Or.inl ⟨by rfl, ?_⟩) ?_ ?_; rotate_left; (intro w'; go_simp; with_reducible rfl); rotate_left; (simp only [Act.put, List.setIfInBounds_toArray, List.set_cons_zero, List.set_cons_succ]; rfl)
    refine pure_ (i := 7) (N := (some 11)) (v := ?_) (a' := ?_) #[true, true, true, true, false, false, false, true, false, false, false, false] rfl rfl (by kernel_rfl) (fun _ _ _ h => h) (Or.inl ⟨by rfl, ?_⟩) ?_ ?_; rotate_left; (intro w'; go_simp; with_reducible rfl); rotate_left; (simp only [Act.put, List.setIfInBounds_toArray, List.set_cons_zero, List.set_cons_succ]; rfl)
    refine pure_ (i := 8) (N := (some 12)) (v := ?_) (a' := ?_) #[true, true, true, true, false, false, false, true, true, false, false, false] rfl rfl (by kernel_rfl) (fun _ _ _ h => h) (Or.inl ⟨by rfl, ?_⟩) ?_ ?_; rotate_left; (intro w'; go_simp; with_reducible rfl); rotate_left; (simp only [Act.put, List.setIfInBounds_toArray, List.set_cons_zero, List.set_cons_succ]; rfl)
    refine pure_ (i := 9) (N := (some 13)) (v := ?_) (a' := ?_) #[true, true, true, true, false, false, false, true, true, true, false, false] rfl rfl (by kernel_rfl) (fun _ _ _ h => h) (Or.inl ⟨by rfl, ?_⟩) ?_ ?_; rotate_left; (intro w'; go_simp; with_reducible rfl); rotate_left; (simp only [Act.put, List.setIfInBounds_toArray, List.set_cons_zero, List.set_cons_succ]; rfl)
    refine take_ (i := 4) (N := (some 8)) (v := ?_) (a' := ?_) #[true, true, true, true, true, false, false, true, true, true, false, false] rfl rfl (by kernel_rfl) (fun _ _ _ h => h) (Or.inl ⟨by rfl, ?_⟩) hHeld ?_ ?_; rotate_left; (rintro w' s0; have c_0 := s0.cell; have f_0 := s0.free; go_simp; with_reducible rfl); rotate_left; (simp only [Act.put, List.setIfInBounds_toArray, List.set_cons_zero, List.set_cons_succ]; rfl)
    refine pure_ (i := 5) (N := (some 9)) (v := ?_) (a' := ?_) #[true, true, true, true, true, true, false, true, true, true, false, false] rfl rfl (by kernel_rfl) (fun _ _ _ h => h) (Or.inl ⟨by rfl, ?_⟩) ?_ ?_; rotate_left; (intro w'; go_simp; with_reducible rfl); rotate_left; (simp only [Act.put, List.setIfInBounds_toArray, List.set_cons_zero, List.set_cons_succ]; rfl)
    refine take_ (i := 10) (N := (some 14)) (v := ?_) (a' := ?_) #[true, true, true, true, true, true, false, true, true, true, true, false] rfl rfl (by kernel_rfl) (fun _ _ _ h => h) (Or.inl ⟨by rfl, ?_⟩) hHeld ?_ ?_; rotate_left; (rintro w' s0; have c_0 := s0.cell; have f_0 := s0.free; go_simp; with_reducible rfl); rotate_left; (simp only [Act.put, List.setIfInBounds_toArray, List.set_cons_zero, List.set_cons_succ]; rfl)
    refine one_ (i := 6) (N := (some 10)) #[true, true, true, true, true, true, true, true, true, true, true, false] rfl rfl (by kernel_rfl) (by decide) (fun Kc hK => ?_)
    try clear hHeld
    refine goes_ Try.func62 (by kernel_rfl) rfl #[.pointer (some ⟨m, 0, none⟩), .agg #[.int .i64 5, .int .i64 A.at_]] (by rfl) rfl rfl (by (try simp only [List.map_toArray, List.map_cons, List.map_nil]); first | done | rfl) ?_
    refine (load_c m wb M 5 A.at_ _ hm).mono ?_
    rintro e w1 ⟨rfl, hm1, hk1⟩
    refine ⟨_, rfl, ?_⟩
    have h1 := AgeAt.keep (AgeAt.drew h) hk1 p0 p1 p2 p3
    replace B := h1.obj
    rw [hsv] at B
    refine hK.out _ _ B (fun hHeld => ?_)
    clear hK Kc
    refine norm_ (a' := ?_) ?_ ?_; rotate_left; (first | (show Act.put _ (some 10) _ = _; (simp only [Act.put, List.setIfInBounds_toArray, List.set_cons_zero, List.set_cons_succ]; rfl)) | rfl)
    refine pure_ (i := 11) (N := (some 15)) (v := ?_) (a' := ?_) #[true, true, true, true, true, true, true, true, true, true, true, true] rfl rfl (by kernel_rfl) (fun _ _ _ h => h) (Or.inl ⟨by rfl, ?_⟩) ?_ ?_; rotate_left; (intro w'; go_simp; with_reducible rfl); rotate_left; (simp only [Act.put, List.setIfInBounds_toArray, List.set_cons_zero, List.set_cons_succ]; rfl)
    try clear hHeld
    refine done_ (by kernel_rfl) ?_
    go_wp2_with (first
      | (go_at_call 63; refine (ends_c _ _ _ _ _ _ _ h1.obj h1.next h1.low (by omega)).mono ?_; rintro e w3 ⟨rfl, h3, hk3⟩; have hm3 := hm1.keep hk3 (fun e => p0 (.inl e.symm)) (fun e => p0 (.inr e.symm)))
      | (go_at_call 36; refine (goes_c _ _ _ _ _ _ _ _ h1.obj h1.next h1.low (by omega) HL.out).mono ?_; rintro e w3 ⟨rfl, h3, hk3⟩; have hm3 := hm1.keep hk3 (fun e => e.elim (fun e => p0 (.inl e.symm)) (fun e => p1 (.inl e.symm))) (fun e => e.elim (fun e => p0 (.inr e.symm)) (fun e => p1 (.inr e.symm)))))
    refine bodyPost_ret (results_none rfl _ _ _) rfl ?_
    rw [HST.out, if_pos S1.out]
    exact ⟨rfl, h3, hm3, ((((Keep.refl _ _).drew.trans hk1).mono (fun i _ e => .inr (.inr e))).trans (hk3.mono (fun i _ e => .inl e)))⟩
  · have b1 : decide (M.at 5 A.at_ < A.number) = false := by simpa using s1
    have S1 := Lib.hid s1
    clear s1
    go_enter Try.func64, Try.ntmps64
    go_wp2_with fail
    replace hm := MemAt.drew hm
    refine start_ (n := 12) (S := fun w' => Blk w' (a) (79) #[.func (.func 64) #[.pointer (some ⟨a, 0, none⟩)] #[], nextV k1 k2 k3, .int .i64 A.at_, .int .u64 A.number, .bool A.later]) (ds := []) #[false, false, false, false, false, false, false, false, false, false, false, false] (by kernel_rfl) rfl rfl (by ((exact got); done)) (fun hHeld => ?_)
    (try clear B)
    have B := hHeld
    refine pure_ (i := 0) (N := (some 4)) (v := ?_) (a' := ?_) #[true, false, false, false, false, false, false, false, false, false, false, false] rfl rfl (by kernel_rfl) (fun _ _ _ h => h) (Or.inl ⟨by rfl, ?_⟩) ?_ ?_; rotate_left; (intro w'; go_simp; with_reducible rfl); rotate_left; (simp only [Act.put, List.setIfInBounds_toArray, List.set_cons_zero, List.set_cons_succ]; rfl)
    refine pure_ (i := 1) (N := (some 5)) (v := ?_) (a' := ?_) #[true, true, false, false, false, false, false, false, false, false, false, false] rfl rfl (by kernel_rfl) (fun _ _ _ h => h) (Or.inl ⟨by rfl, ?_⟩) ?_ ?_; rotate_left; (intro w'; go_simp; with_reducible rfl); rotate_left; (simp only [Act.put, List.setIfInBounds_toArray, List.set_cons_zero, List.set_cons_succ]; rfl)
    refine pure_ (i := 2) (N := (some 6)) (v := ?_) (a' := ?_) #[true, true, true, false, false, false, false, false, false, false, false, false] rfl rfl (by kernel_rfl) (fun _ _ _ h => h) (Or.inl ⟨by rfl, ?_⟩) ?_ ?_; rotate_left; (intro w'; go_simp; with_reducible rfl); rotate_left; (simp only [Act.put, List.setIfInBounds_toArray, List.set_cons_zero, List.set_cons_succ]; rfl)
    refine pure_ (i := 3) (N := (some 7)) (v := ?_) (a' := ?_) #[true, true, true, true, false, false, false, false, false, false, false, false] rfl rfl (by kernel_rfl) (fun _ _ _ h => h) (Or.inl ⟨by rfl, ?_⟩) ?_ ?_; rotate_left; (intro w'; go_simp; with_reducible rfl); rotate_left; (simp only [Act.put, List.setIfInBounds_toArray, List.set_cons_zero, List.set_cons_succ]; rfl)
    refine pure_ (i := 7) (N := (some 11)) (v := ?_) (a' := ?_) #[true, true, true, true, false, false, false, true, false, false, false, false] rfl rfl (by kernel_rfl) (fun _ _ _ h => h) (Or.inl ⟨by rfl, ?_⟩) ?_ ?_; rotate_left; (intro w'; go_simp; with_reducible rfl); rotate_left; (simp only [Act.put, List.setIfInBounds_toArray, List.set_cons_zero, List.set_cons_succ]; rfl)
    refine pure_ (i := 8) (N := (some 12)) (v := ?_) (a' := ?_) #[true, true, true, true, false, false, false, true, true, false, false, false] rfl rfl (by kernel_rfl) (fun _ _ _ h => h) (Or.inl ⟨by rfl, ?_⟩) ?_ ?_; rotate_left; (intro w'; go_simp; with_reducible rfl); rotate_left; (simp only [Act.put, List.setIfInBounds_toArray, List.set_cons_zero, List.set_cons_succ]; rfl)
    refine pure_ (i := 9) (N := (some 13)) (v := ?_) (a' := ?_) #[true, true, true, true, false, false, false, true, true, true, false, false] rfl rfl (by kernel_rfl) (fun _ _ _ h => h) (Or.inl ⟨by rfl, ?_⟩) ?_ ?_; rotate_left; (intro w'; go_simp; with_reducible rfl); rotate_left; (simp only [Act.put, List.setIfInBounds_toArray, List.set_cons_zero, List.set_cons_succ]; rfl)
    refine take_ (i := 4) (N := (some 8)) (v := ?_) (a' := ?_) #[true, true, true, true, true, false, false, true, true, true, false, false] rfl rfl (by kernel_rfl) (fun _ _ _ h => h) (Or.inl ⟨by rfl, ?_⟩) hHeld ?_ ?_; rotate_left; (rintro w' s0; have c_0 := s0.cell; have f_0 := s0.free; go_simp; with_reducible rfl); rotate_left; (simp only [Act.put, List.setIfInBounds_toArray, List.set_cons_zero, List.set_cons_succ]; rfl)
    refine pure_ (i := 5) (N := (some 9)) (v := ?_) (a' := ?_) #[true, true, true, true, true, true, false, true, true, true, false, false] rfl rfl (by kernel_rfl) (fun _ _ _ h => h) (Or.inl ⟨by rfl, ?_⟩) ?_ ?_; rotate_left; (intro w'; go_simp; with_reducible rfl); rotate_left; (simp only [Act.put, List.setIfInBounds_toArray, List.set_cons_zero, List.set_cons_succ]; rfl)
    refine take_ (i := 10) (N := (some 14)) (v := ?_) (a' := ?_) #[true, true, true, true, true, true, false, true, true, true, true, false] rfl rfl (by kernel_rfl) (fun _ _ _ h => h) (Or.inl ⟨by rfl, ?_⟩) hHeld ?_ ?_; rotate_left; (rintro w' s0; have c_0 := s0.cell; have f_0 := s0.free; go_simp; with_reducible rfl); rotate_left; (simp only [Act.put, List.setIfInBounds_toArray, List.set_cons_zero, List.set_cons_succ]; rfl)
    refine one_ (i := 6) (N := (some 10)) #[true, true, true, true, true, true, true, true, true, true, true, false] rfl rfl (by kernel_rfl) (by decide) (fun Kc hK => ?_)
    try clear hHeld
    refine goes_ Try.func62 (by kernel_rfl) rfl #[.pointer (some ⟨m, 0, none⟩), .agg #[.int .i64 5, .int .i64 A.at_]] (by rfl) rfl rfl (by (try simp only [List.map_toArray, List.map_cons, List.map_nil]); first | done | rfl) ?_
    refine (load_c m wb M 5 A.at_ _ hm).mono ?_
    rintro e w1 ⟨rfl, hm1, hk1⟩
    refine ⟨_, rfl, ?_⟩
    have h1 := AgeAt.keep (AgeAt.drew h) hk1 p0 p1 p2 p3
    replace B := h1.obj
    rw [hsv] at B
    refine hK.out _ _ B (fun hHeld => ?_)
    clear hK Kc
    refine norm_ (a' := ?_) ?_ ?_; rotate_left; (first | (show Act.put _ (some 10) _ = _; (simp only [Act.put, List.setIfInBounds_toArray, List.set_cons_zero, List.set_cons_succ]; rfl)) | rfl)
    refine pure_ (i := 11) (N := (some 15)) (v := ?_) (a' := ?_) #[true, true, true, true, true, true, true, true, true, true, true, true] rfl rfl (by kernel_rfl) (fun _ _ _ h => h) (Or.inl ⟨by rfl, ?_⟩) ?_ ?_; rotate_left; (intro w'; go_simp; with_reducible rfl); rotate_left; (simp only [Act.put, List.setIfInBounds_toArray, List.set_cons_zero, List.set_cons_succ]; rfl)
    try clear hHeld
    refine done_ (by kernel_rfl) ?_
    go_wp2_with (first
      | (go_at_call 63; refine (ends_c _ _ _ _ _ _ _ h1.obj h1.next h1.low (by omega)).mono ?_; rintro e w3 ⟨rfl, h3, hk3⟩; have hm3 := hm1.keep hk3 (fun e => p0 (.inl e.symm)) (fun e => p0 (.inr e.symm)))
      | (go_at_call 36; refine (goes_c _ _ _ _ _ _ _ _ h1.obj h1.next h1.low (by omega) HL.out).mono ?_; rintro e w3 ⟨rfl, h3, hk3⟩; have hm3 := hm1.keep hk3 (fun e => e.elim (fun e => p0 (.inl e.symm)) (fun e => p1 (.inl e.symm))) (fun e => e.elim (fun e => p0 (.inr e.symm)) (fun e => p1 (.inr e.symm)))))
    go_end0
    rw [HST.out, if_neg (by have := S1.out; omega)]
    exact ⟨rfl, h3, hm3, ((((Keep.refl _ _).drew.trans hk1).mono (fun i _ e => .inr (.inr e))).trans (hk3.mono (fun i _ e => e.elim .inl (fun e => .inr (.inl e)))))⟩

theorem step_c (a k1 k2 k3 m wb : Nat) (A : AgeS) (M : Mem) (W : World) (h : AgeAt W a k1 k2 k3 A) (hm : MemAt W m wb M) (hs : A.slots ≤ 900) :
    Calls Try.prog 27 #[.pointer (some ⟨a, 0, none⟩), .pointer (some ⟨m, 0, none⟩)] W
      fun e W' => e = .returned (.tuple #[]) ∧ AgeAt W' a k1 k2 k3 (A.step M).1 ∧ MemAt W' m wb (A.step M).2 ∧ Keep (fun i => i = a ∨ i = k1 ∨ i = m ∨ i = wb) W W' := by
  have B := h.obj
  have e1 := nil_nilN
  have e2 := fn_nilN
  unfold stepV at B
  by_cases hd : A.done = true
  · rw [if_pos hd] at B
    have c_B := B.cell
    have HD := Lib.hid hd
    clear hd
    go_enter Try.func27, Try.ntmps27
    go_wp2
    go_end0
    rw [show A.step M = (A, M) by unfold AgeS.step; rw [if_pos HD.out]]
    exact ⟨rfl, h, hm, Keep.refl _ _⟩
  · rw [if_neg hd] at B
    have HD := Lib.hid (by simpa using hd : A.done = false)
    clear hd
    by_cases ha : A.asks = true
    · rw [if_pos ha] at B
      have c_B := B.cell
      have HA := Lib.hid ha
      clear ha
      go_enter Try.func27, Try.ntmps27
      go_wp2_with (go_at_call 64; refine (snapshot_c _ _ _ _ _ _ _ _ _ h hm HD.out HA.out hs).mono ?_; rintro e w1 ⟨rfl, h1, hm1, hk1⟩)
      go_end0
      exact ⟨rfl, h1, hm1, hk1⟩
    · rw [if_neg ha] at B
      have c_B := B.cell
      have HA := Lib.hid (by simpa using ha : A.asks = false)
      clear ha
      go_enter Try.func27, Try.ntmps27
      go_wp2_with (go_at_call 53; refine (look_c _ _ _ _ _ _ _ _ _ h hm HD.out HA.out hs).mono ?_; rintro e w1 ⟨rfl, h1, hm1, hk1⟩)
      go_end0
      exact ⟨rfl, h1, hm1, hk1⟩

theorem others_c (slots but : Int) (W : World) :
    Calls Try.prog 35 #[.int .i64 slots, .int .i64 but] W
      fun e W' => ∃ k1 k2 k3, e = .returned (nextV k1 k2 k3) ∧ NextAt W' k1 k2 k3 (-1) but slots ∧ Below W.heap.size W W' ∧ W.heap.size ≤ k1 ∧ W.heap.size ≤ k2 ∧ W.heap.size ≤ k3 := by
  go_enter Try.func35, Try.ntmps35
  go_wp2
  go_ret
  refine ⟨_, _, _, rfl, ⟨Blk.newAt _ _ _ _ (by simp), (Blk.newAt _ _ _ _ (by simp)).alloc _, ((Blk.new W _ _).alloc _).alloc _, by omega, by omega⟩, (((Below.refl _ _).alloc (Nat.le_refl _) _).alloc (by simp) _).alloc (by simp; omega) _, by omega, by omega, by omega⟩

theorem new_c (t s k g q slot number : Int) (W : World) (hs : s ≤ 900) (h0 : 0 ≤ s) :
    Calls Try.prog 10 #[.agg #[.int .i64 t, .int .i64 s, .int .i64 k, .int .i64 g, .int .u64 q], .int .i64 slot, .int .u64 number] W
      fun e W' => ∃ a k1 k2 k3, e = .returned (.pointer (some ⟨a, 0, none⟩)) ∧ AgeAt W' a k1 k2 k3 (AgeS.new s slot number) ∧ Below W.heap.size W W' ∧ W.heap.size ≤ a ∧ W.heap.size ≤ k1 ∧ W.heap.size ≤ k2 ∧ W.heap.size ≤ k3 := by
  go_enter Try.func10, Try.ntmps10
  go_wp2_with (first
   | (go_at_call 35; refine (others_c _ _ _).mono ?_; rintro e w1 ⟨k1, k2, k3, rfl, hn, hb1, g1, g2, g3⟩; unfold nextV)
   | (go_at_call 36; go_loud (have B0 := Blk.new w1 79 #[.nilFunc, nextV k1 k2 k3, .int .i64 0, .int .u64 number, .bool false]; have hn0 : NextAt (w1.alloc (.cells #[.nilFunc, nextV k1 k2 k3, .int .i64 0, .int .u64 number, .bool false] 79)) k1 k2 k3 (-1) slot s := ⟨hn.b1.alloc _, hn.b2.alloc _, hn.b3.alloc _, hn.n12, hn.n13⟩; refine (goes_c _ _ _ _ _ _ ⟨s, slot, number, -1, false, false⟩ _ B0 hn0 (show (-1 : Int) ≤ -1 by decide) (show (-1 : Int) ≤ 900 by decide) rfl).mono ?_; rintro e w2 ⟨rfl, h2, hk2⟩)))
  go_ret
  have hs1 := hb1.size
  simp at hs1 g1 g2 g3
  have HB : Below W.heap.size W w1 := below_step ((Below.refl _ _).alloc (Nat.le_refl _) _) hb1
  refine ⟨_, k1, k2, k3, rfl, h2, (HB.alloc (by omega) _).trans (hk2.below (by simp; omega) (fun i hi e => by omega)), by omega, by omega, by omega, by omega⟩
end Go.Proofs.Ytbgdhahdihbpaaa.Age
end

section
namespace Go.Proofs.Ytbgdhahdihbpaaa.Store
open Go.RowKit Go.IntWalk Go.Proofs.Ytbgdhahdihbpaaa.Own Go.Proofs.Ytbgdhahdihbpaaa.Model
open Go.Proofs.YtbgdhahdihbpaaaW.PrintLast
set_option linter.unusedSimpArgs false
set_option linter.unusedVariables false

/-- Cells whose first ones are some words. -/
def Heads (cur : Array Value) (ws : List Int) : Prop := ∀ i (h : i < ws.length), cur[i]? = some (.int .u64 ws[i])
theorem Heads.words (ws : List Int) : Heads (wordsV ws) ws := fun i h => by rw [words_at h]; simp [List.getD_eq_getElem?_getD, List.getElem?_eq_getElem h]
theorem Heads.set {cur : Array Value} {ws : List Int} (h : Heads cur ws) (n : Nat) (v : Int) : Heads (cur.setIfInBounds n (.int .u64 v)) (ws.set n v) := by
  intro i hi
  simp at hi
  have := h i hi
  rw [Array.getElem?_setIfInBounds, List.getElem_set]
  split
  · have : i < cur.size := by
      rcases Nat.lt_or_ge i cur.size with h1 | h1
      · exact h1
      · rw [Array.getElem?_eq_none h1] at this; cases this
    simp_all
  · exact this

theorem Heads.lies {W : World} {g : Nat} {cur : Array Value} {ws : List Int} (h : Blk W g 22 cur) (hh : Heads cur ws) : Lies W ⟨g, 0, none⟩ ws :=
  ⟨fun j hj => by rw [addr_add0, h.cell]; exact hh j hj, h.lt⟩
theorem words_under_i : ∃ i, Try.prog.info? 22 = some i ∧ i.zero = some (.int .u64 0) ∧ i.size = 1 ∧ i.bytes = 8 := by
  have h := words_info
  obtain ⟨i, hi, hzz⟩ := Option.map_eq_some_iff.1 h
  simp only [Prod.mk.injEq] at hzz
  exact ⟨i, hi, hzz.1, hzz.2.1, hzz.2.2⟩
theorem wp_append_words {w : World} {o : Oper} {a : Act} {K : Act → World → Prop} {Q : Exit → Act → World → Prop} (s x : Operand)
    (ho : o.op = .call { callee := .builtin .append, args := #[s, x], argTypes := #[25, 25] }) (e : Nat) (g : Addr) (n cap : Nat) (ws : List Int)
    (hs : a.eval s = .slice (some ⟨e, 0, none⟩) 0 0) (hx : a.eval x = .slice (some g) n cap) (hE : Blk w e 22 #[]) (hg : Lies w g ws) (hn : ws.length = n) (h0 : 0 < n) (h1 : n ≤ 100)
    (h : ∀ g' cap' cur' w', e ≤ g' → Blk w' g' 22 cur' → Heads cur' ws → Keep (fun i => i = e) w w' → K (a.put o.dst (.slice (some ⟨g', 0, none⟩) n cap')) w') : o.wp Try.prog a w K Q := by
  obtain ⟨i, hi, hz, hsz, hby⟩ := words_under_i
  have hlt := hE.lt
  refine wp_append_own w s x 25 ho e 22 i (.int .u64 0) 1 8 words_under hi hz hsz hby rfl (by decide) (.slice (some ⟨e, 0, none⟩) 0 0) 0 [] hs ?_ g n cap (ws.map (.int .u64)) hx (by simp [hn]) hg.news (by simp [Value.oneCell']) (by simp [maxLen]; omega) (by omega) (by omega) ?_
  · exact ⟨rfl, .inr ⟨e, 0, #[], rfl, Nat.le_refl _, (by have := hE; unfold Blk at this; exact this), Nat.le_refl _, by decide, rfl, rfl⟩⟩
  · intro v' w' hown hgr hnil
    obtain ⟨hl, hh'⟩ := hown
    rcases hh' with ⟨_, hz0⟩ | ⟨g', cap', cur', rfl, hge, hb, hc1, hc2, hc3, hc4⟩
    · omega
    · have hb' : Blk w' g' 22 cur' := by unfold Blk; exact hb
      have hr : 0 + n = n := by omega
      rw [hr]
      refine h g' cap' cur' w' hge hb' ?_ ?_
      · intro k hk
        simp [hr] at hc4
        have hk' : (cur'.toList.take n)[k]? = some (.int .u64 ws[k]) := by rw [hc4]; simp [hk]
        rw [List.getElem?_take_of_lt (by omega)] at hk'
        simpa using hk'
      · exact ⟨hgr.os, hgr.tape, hgr.output, hgr.size, fun k hk hne => hgr.block k hk (by simp [Value.ownBlock]; exact hne)⟩
theorem wpList_append_words {w : World} {ops : Array Oper} {rest : List Oper} {o : Oper} {a : Act} {Q : Exit → Act → World → Prop} (hgd : o.guard = none) (s x : Operand)
    (ho : o.op = .call { callee := .builtin .append, args := #[s, x], argTypes := #[25, 25] }) (e : Nat) (g : Addr) (n cap : Nat) (ws : List Int)
    (hs : a.eval s = .slice (some ⟨e, 0, none⟩) 0 0) (hx : a.eval x = .slice (some g) n cap) (hE : Blk w e 22 #[]) (hg : Lies w g ws) (hn : ws.length = n) (h0 : 0 < n) (h1 : n ≤ 100)
    (h : ∀ g' cap' cur' w', e ≤ g' → Blk w' g' 22 cur' → Heads cur' ws → Keep (fun i => i = e) w w' → wpList Try.prog ops Q rest (a.put o.dst (.slice (some ⟨g', 0, none⟩) n cap')) w') : wpList Try.prog ops Q (o :: rest) a w :=
  wpList_plain hgd fun K hK => wp_append_words s x ho e g n cap ws hs hx hE hg hn h0 h1 fun g' cap' cur' w' p1 p2 p3 p4 => hK _ _ (h g' cap' cur' w' p1 p2 p3 p4)
end Go.Proofs.Ytbgdhahdihbpaaa.Store
end

section
namespace Go.Proofs.Ytbgdhahdihbpaaa.Store
open Go.RowKit Go.IntWalk Go.Proofs.Ytbgdhahdihbpaaa.Own Go.Proofs.Ytbgdhahdihbpaaa.Model
open Go.Proofs.YtbgdhahdihbpaaaW.PrintLast
set_option linter.unusedSimpArgs false
set_option linter.unusedVariables false

def refCells (g cap : Nat) (M : Mem) : Array Value := #[.int .i64 M.c.T, .int .i64 M.c.S, .int .i64 M.c.K, .int .i64 M.c.G, .int .u64 M.c.Q, .slice (some ⟨g, 0, none⟩) M.ws.length cap, .int .i64 M.many, .int .i64 M.last.kind, .int .i64 M.last.sk, .int .i64 M.last.so, .int .u64 M.last.old, .int .u64 M.last.new, .bool M.last.done]
structure RefAt (W : World) (g cap : Nat) (cur : Array Value) (M : Mem) : Prop where
  words : Blk W g 22 cur
  heads : Heads cur M.ws
  ok : M.Ok
theorem RefAt.later {W W' : World} {g cap : Nat} {cur : Array Value} {M : Mem} (h : RefAt W g cap cur M) (k : Below W.heap.size W W') : RefAt W' g cap cur M := ⟨h.words.below k, h.heads, h.ok⟩
theorem RefAt.keep {W W' : World} {g cap : Nat} {cur : Array Value} {M : Mem} {S : Nat → Prop} (h : RefAt W g cap cur M) (k : Keep S W W') (hs : ¬ S g) : RefAt W' g cap cur M := ⟨h.words.keep k hs, h.heads, h.ok⟩

theorem refcell_c (c : Cfg) (h : c.Rt) (kind of : Int) (W : World) :
    Calls Try.prog 38 #[.agg #[.int .i64 c.T, .int .i64 c.S, .int .i64 c.K, .int .i64 c.G, .int .u64 c.Q], .int .i64 kind, .int .i64 of] W fun e w' => e = .returned (.int .i64 (c.cell kind of)) ∧ Below W.heap.size W w' := by
  refine (PAgeOldest.refcell_calls c kind of W).mono ?_
  rintro e w' ⟨rfl, hb⟩
  refine ⟨?_, hb⟩
  unfold Cfg.cellAny; rw [if_pos h]


set_option maxHeartbeats 2000000 in
theorem reftouch_load (g cap : Nat) (cur : Array Value) (M : Mem) (sk so o v : Int) (W : World) (h : RefAt W g cap cur M) :
    Calls Try.prog 60 #[.agg (refCells g cap M), .int .i64 1, .agg #[.int .i64 sk, .int .i64 so], .int .u64 o, .int .u64 v] W
      fun e W' => e = .returned (.tuple #[.agg (refCells g cap (M.load sk so)), tchV (M.load sk so).last]) ∧ Below W.heap.size W W' := by
  have hr := Cfg.cell_range h.ok.rt sk so
  have Bw := h.words
  have lw := Bw.lt
  have HB := Below.refl W.heap.size W
  unfold refCells
  by_cases hc : 0 ≤ M.c.cell sk so
  · obtain ⟨n, hn⟩ := Int.eq_ofNat_of_zero_le hc
    have hl : n < M.ws.length := by have := h.ok.len; omega
    have hwn : cur[n]? = some (.int .u64 (M.at sk so)) := by
      rw [h.heads n hl]; unfold Mem.at; rw [if_pos hc, hn]; simp [List.getD_eq_getElem?_getD, List.getElem?_eq_getElem hl]
    have HN := Lib.hid hn
    clear hn
    go_enter Try.func60, Try.ntmps60
    have hn0 : (0 : Int) ≤ (n : Int) := by omega
    have hnl : (n : Int) < (M.ws.length : Int) := by omega
    go_wp2_with (go_at_call 38; refine (refcell_c M.c h.ok.rt sk so _).mono ?_; rintro e w1 ⟨rfl, hbl⟩; have N_Bw : Blk w1 (g) (22) cur := Blk.later hbl (by exact got); have N_B5 : Blk w1 (W.heap.size) (35) #[.int .i64 M.c.T, .int .i64 M.c.S, .int .i64 M.c.K, .int .i64 M.c.G, .int .u64 M.c.Q, .slice (some ⟨g, 0, none⟩) M.ws.length cap, .int .i64 M.many, .int .i64 M.last.kind, .int .i64 M.last.sk, .int .i64 M.last.so, .int .u64 M.last.old, .int .u64 M.last.new, .bool M.last.done] := Blk.later hbl (by exact got); have N_B7 : Blk w1 (W.heap.size + 1) (31) #[.int .i64 sk, .int .i64 so] := Blk.later hbl (by exact got); have N_R0 : Blk w1 (W.heap.size + 1 + 1) (35) #[.int .i64 0, .int .i64 0, .int .i64 0, .int .i64 0, .int .u64 0, .slice none 0 0, .int .i64 0, .int .i64 0, .int .i64 0, .int .i64 0, .int .u64 0, .int .u64 0, .bool false] := Blk.later hbl (by exact got); have N_R1 : Blk w1 (W.heap.size + 1 + 1 + 1) (33) #[.int .i64 0, .int .i64 0, .int .i64 0, .int .u64 0, .int .u64 0, .bool false] := Blk.later hbl (by exact got); have N_T : Blk w1 (W.heap.size + 1 + 1 + 1 + 1) (33) #[.int .i64 1, .int .i64 sk, .int .i64 so, .int .u64 0, .int .u64 0, .bool false] := Blk.later hbl (by exact got); have N_N : Blk w1 (W.heap.size + 1 + 1 + 1 + 1 + 1) (35) #[.int .i64 M.c.T, .int .i64 M.c.S, .int .i64 M.c.K, .int .i64 M.c.G, .int .u64 M.c.Q, .slice (some ⟨g, 0, none⟩) M.ws.length cap, .int .i64 (wrap64 (M.many + 1)), .int .i64 0, .int .i64 0, .int .i64 0, .int .u64 0, .int .u64 0, .bool false] := Blk.later hbl (by exact got); have N_HB : Below W.heap.size W w1 := below_step (by exact gotB) hbl; (try clear c_Bw f_Bw c_B5 f_B5 c_B7 f_B7 c_R0 f_R0 c_R1 f_R1 c_T f_T c_N f_N); (try clear Bw B5 B7 R0 R1 T N HB); have Bw := N_Bw; have B5 := N_B5; have B7 := N_B7; have R0 := N_R0; have R1 := N_R1; have T := N_T; have N := N_N; have HB := N_HB; clear N_Bw N_B5 N_B7 N_R0 N_R1 N_T N_N N_HB; have c_Bw := Bw.cell; have f_Bw := Bw.free; have c_B5 := B5.cell; have f_B5 := B5.free; have c_B7 := B7.cell; have f_B7 := B7.free; have c_R0 := R0.cell; have f_R0 := R0.free; have c_R1 := R1.cell; have f_R1 := R1.free; have c_T := T.cell; have f_T := T.free; have c_N := N.cell; have f_N := N.free; rw [HN.out]; have cw := (Bw.cell n).trans hwn)
    refine wp_at (S := fun w' => Blk w' (g) (22) cur ∧ Blk w' (W.heap.size) (35) #[.int .i64 M.c.T, .int .i64 M.c.S, .int .i64 M.c.K, .int .i64 M.c.G, .int .u64 M.c.Q, .slice (some ⟨g, 0, none⟩) M.ws.length cap, .int .i64 M.many, .int .i64 M.last.kind, .int .i64 M.last.sk, .int .i64 M.last.so, .int .u64 M.last.old, .int .u64 M.last.new, .bool M.last.done] ∧ Blk w' (W.heap.size + 1) (31) #[.int .i64 sk, .int .i64 so] ∧ Blk w' (W.heap.size + 1 + 1) (35) #[.int .i64 0, .int .i64 0, .int .i64 0, .int .i64 0, .int .u64 0, .slice none 0 0, .int .i64 0, .int .i64 0, .int .i64 0, .int .i64 0, .int .u64 0, .int .u64 0, .bool false] ∧ Blk w' (W.heap.size + 1 + 1 + 1) (33) #[.int .i64 0, .int .i64 0, .int .i64 0, .int .u64 0, .int .u64 0, .bool false] ∧ Blk w' (W.heap.size + 1 + 1 + 1 + 1) (33) #[.int .i64 1, .int .i64 sk, .int .i64 so, .int .u64 (M.at sk so), .int .u64 (M.at sk so), .bool true] ∧ Blk w' (W.heap.size + 1 + 1 + 1 + 1 + 1) (35) #[.int .i64 M.c.T, .int .i64 M.c.S, .int .i64 M.c.K, .int .i64 M.c.G, .int .u64 M.c.Q, .slice (some ⟨g, 0, none⟩) M.ws.length cap, .int .i64 (wrap64 (M.many + 1)), .int .i64 1, .int .i64 sk, .int .i64 so, .int .u64 (M.at sk so), .int .u64 (M.at sk so), .bool true] ∧ Below W.heap.size W w') ⟨(by exact got), (by exact got), (by exact got), (by exact got), (by exact got), (by exact got), (by exact got), (by exact gotB)⟩ ?_; (try clear c_Bw f_Bw c_B5 f_B5 c_B7 f_B7 c_R0 f_R0 c_R1 f_R1 c_T f_T c_N f_N); (try clear Bw B5 B7 R0 R1 T N HB); rintro w2 ⟨Bw, B5, B7, R0, R1, T, N, HB⟩
    have c_R0 := R0.cell; have f_R0 := R0.free; have c_R1 := R1.cell; have f_R1 := R1.free
    have T' := T; have N' := N; have HB' := HB; have R0' := R0; have R1' := R1
    replace R0 := Blk.drew R0
    replace R1 := Blk.drew R1
    replace Bw := Blk.drew Bw
    replace HB := Below.drew HB
    refine start_ (n := 4) (S := fun w' => Blk w' (W.heap.size + 1 + 1 + 1 + 1) (33) #[.int .i64 1, .int .i64 sk, .int .i64 so, .int .u64 (M.at sk so), .int .u64 (M.at sk so), .bool true] ∧ Blk w' (W.heap.size + 1 + 1 + 1 + 1 + 1) (35) #[.int .i64 M.c.T, .int .i64 M.c.S, .int .i64 M.c.K, .int .i64 M.c.G, .int .u64 M.c.Q, .slice (some ⟨g, 0, none⟩) M.ws.length cap, .int .i64 (wrap64 (M.many + 1)), .int .i64 1, .int .i64 sk, .int .i64 so, .int .u64 (M.at sk so), .int .u64 (M.at sk so), .bool true] ∧ Below W.heap.size W w') (ds := [3]) #[false, false, false, false] (by kernel_rfl) rfl rfl ⟨(by ((exact got); done)), (by ((exact got); done)), (by ((exact gotB); done))⟩ (fun hHeld => ?_)
    (try clear T)
    (try clear N)
    (try clear HB)
    have ⟨T, N, HB⟩ := hHeld
    refine take_ (i := 0) (N := (some 90)) (v := ?_) (a' := ?_) #[true, false, false, false] rfl rfl (by kernel_rfl) (fun _ _ _ h => h) (Or.inl ⟨by rfl, ?_⟩) hHeld ?_ ?_; rotate_left; (rintro w' ⟨s0, s1, s2⟩; have c_0 := s0.cell; have f_0 := s0.free; have c_1 := s1.cell; have f_1 := s1.free; go_simp; with_reducible rfl); rotate_left; (simp only [Act.put, List.setIfInBounds_toArray, List.set_cons_zero, List.set_cons_succ]; rfl)
    refine take_ (i := 1) (N := (some 91)) (v := ?_) (a' := ?_) #[true, true, false, false] rfl rfl (by kernel_rfl) (fun _ _ _ h => h) (Or.inl ⟨by rfl, ?_⟩) hHeld ?_ ?_; rotate_left; (rintro w' ⟨s0, s1, s2⟩; have c_0 := s0.cell; have f_0 := s0.free; have c_1 := s1.cell; have f_1 := s1.free; go_simp; with_reducible rfl); rotate_left; (simp only [Act.put, List.setIfInBounds_toArray, List.set_cons_zero, List.set_cons_succ]; rfl)
    refine one_ (i := 2) (N := none) #[true, true, true, false] rfl rfl (by kernel_rfl) (by decide) (fun Kc hK => ?_)
    try clear hHeld
    rw [if_pos (by rfl)]
    go_simp
    refine hK.out _ _ ⟨(by ((exact got); done)), (by ((exact got); done)), (by ((exact gotB); done))⟩ (fun hHeld => ?_)
    (try clear T)
    (try clear N)
    (try clear HB)
    have ⟨T, N, HB⟩ := hHeld
    clear hK Kc
    refine norm_ (a' := ?_) ?_ ?_; rotate_left; (first | (show Act.put _ none _ = _; (simp only [Act.put, List.setIfInBounds_toArray, List.set_cons_zero, List.set_cons_succ]; rfl)) | rfl)
    refine last_ (i := 3) (N := none) #[true, true, true, true] rfl rfl (by kernel_rfl) (by decide) (fun Kc hK => ?_)
    try clear hHeld
    rw [if_pos (by rfl)]
    go_simp
    refine hK.out _ _ ?_
    clear hK Kc
    refine norm_ (a' := ?_) ?_ ?_; rotate_left; (first | (show Act.put _ none _ = _; (simp only [Act.put, List.setIfInBounds_toArray, List.set_cons_zero, List.set_cons_succ]; rfl)) | rfl)
    try clear hHeld
    refine done_ (by kernel_rfl) ?_
    go_wp2
    refine body_at (S := fun w' => Blk w' (W.heap.size + 1 + 1) (35) #[.int .i64 M.c.T, .int .i64 M.c.S, .int .i64 M.c.K, .int .i64 M.c.G, .int .u64 M.c.Q, .slice (some ⟨g, 0, none⟩) M.ws.length cap, .int .i64 (wrap64 (M.many + 1)), .int .i64 1, .int .i64 sk, .int .i64 so, .int .u64 (M.at sk so), .int .u64 (M.at sk so), .bool true] ∧ Blk w' (W.heap.size + 1 + 1 + 1) (33) #[.int .i64 1, .int .i64 sk, .int .i64 so, .int .u64 (M.at sk so), .int .u64 (M.at sk so), .bool true] ∧ Below W.heap.size W w') ⟨(by exact got), (by exact got), (by exact gotB)⟩ ?_; (try clear c_R0 f_R0 c_R1 f_R1); (try clear R0 R1 HB); rintro w4 ⟨R0, R1, HB⟩
    have c_R0 := R0.cell
    have c_R1 := R1.cell
    have hM : M.load sk so = { M with last := ⟨1, sk, so, M.at sk so, M.at sk so, true⟩, many := wrap64 (M.many + 1) } := by
      have hset : M.ws.set n (M.at sk so) = M.ws := by
        unfold Mem.at; rw [if_pos hc, HN.out]; simp [List.getD_eq_getElem?_getD, List.getElem?_eq_getElem hl]
      unfold Mem.load Mem.acc sameF; rw [if_pos hc, HN.out]; simp only [Int.toNat_natCast]; rw [hset]
    rw [hM]
    exact bodyPost_ret (v := .tuple #[.agg (refCells g cap { M with last := ⟨1, sk, so, M.at sk so, M.at sk so, true⟩, many := wrap64 (M.many + 1) }), tchV ⟨1, sk, so, M.at sk so, M.at sk so, true⟩]) (by simp [results, Try.results60, c_R0, c_R1, go_sem, refCells, tchV]) rfl ⟨rfl, HB⟩
  · have hneg : M.c.cell sk so < 0 := by omega
    clear hc
    go_enter Try.func60, Try.ntmps60
    go_wp2_with (go_at_call 38; refine (refcell_c M.c h.ok.rt sk so _).mono ?_; rintro e w1 ⟨rfl, hbl⟩; have N_Bw : Blk w1 (g) (22) cur := Blk.later hbl (by exact got); have N_B5 : Blk w1 (W.heap.size) (35) #[.int .i64 M.c.T, .int .i64 M.c.S, .int .i64 M.c.K, .int .i64 M.c.G, .int .u64 M.c.Q, .slice (some ⟨g, 0, none⟩) M.ws.length cap, .int .i64 M.many, .int .i64 M.last.kind, .int .i64 M.last.sk, .int .i64 M.last.so, .int .u64 M.last.old, .int .u64 M.last.new, .bool M.last.done] := Blk.later hbl (by exact got); have N_B7 : Blk w1 (W.heap.size + 1) (31) #[.int .i64 sk, .int .i64 so] := Blk.later hbl (by exact got); have N_R0 : Blk w1 (W.heap.size + 1 + 1) (35) #[.int .i64 0, .int .i64 0, .int .i64 0, .int .i64 0, .int .u64 0, .slice none 0 0, .int .i64 0, .int .i64 0, .int .i64 0, .int .i64 0, .int .u64 0, .int .u64 0, .bool false] := Blk.later hbl (by exact got); have N_R1 : Blk w1 (W.heap.size + 1 + 1 + 1) (33) #[.int .i64 0, .int .i64 0, .int .i64 0, .int .u64 0, .int .u64 0, .bool false] := Blk.later hbl (by exact got); have N_T : Blk w1 (W.heap.size + 1 + 1 + 1 + 1) (33) #[.int .i64 1, .int .i64 sk, .int .i64 so, .int .u64 0, .int .u64 0, .bool false] := Blk.later hbl (by exact got); have N_N : Blk w1 (W.heap.size + 1 + 1 + 1 + 1 + 1) (35) #[.int .i64 M.c.T, .int .i64 M.c.S, .int .i64 M.c.K, .int .i64 M.c.G, .int .u64 M.c.Q, .slice (some ⟨g, 0, none⟩) M.ws.length cap, .int .i64 (wrap64 (M.many + 1)), .int .i64 0, .int .i64 0, .int .i64 0, .int .u64 0, .int .u64 0, .bool false] := Blk.later hbl (by exact got); have N_HB : Below W.heap.size W w1 := below_step (by exact gotB) hbl; (try clear c_Bw f_Bw c_B5 f_B5 c_B7 f_B7 c_R0 f_R0 c_R1 f_R1 c_T f_T c_N f_N); (try clear Bw B5 B7 R0 R1 T N HB); have Bw := N_Bw; have B5 := N_B5; have B7 := N_B7; have R0 := N_R0; have R1 := N_R1; have T := N_T; have N := N_N; have HB := N_HB; clear N_Bw N_B5 N_B7 N_R0 N_R1 N_T N_N N_HB; have c_Bw := Bw.cell; have f_Bw := Bw.free; have c_B5 := B5.cell; have f_B5 := B5.free; have c_B7 := B7.cell; have f_B7 := B7.free; have c_R0 := R0.cell; have f_R0 := R0.free; have c_R1 := R1.cell; have f_R1 := R1.free; have c_T := T.cell; have f_T := T.free; have c_N := N.cell; have f_N := N.free)
    refine wp_at (S := fun w' => Blk w' (g) (22) cur ∧ Blk w' (W.heap.size) (35) #[.int .i64 M.c.T, .int .i64 M.c.S, .int .i64 M.c.K, .int .i64 M.c.G, .int .u64 M.c.Q, .slice (some ⟨g, 0, none⟩) M.ws.length cap, .int .i64 M.many, .int .i64 M.last.kind, .int .i64 M.last.sk, .int .i64 M.last.so, .int .u64 M.last.old, .int .u64 M.last.new, .bool M.last.done] ∧ Blk w' (W.heap.size + 1) (31) #[.int .i64 sk, .int .i64 so] ∧ Blk w' (W.heap.size + 1 + 1) (35) #[.int .i64 0, .int .i64 0, .int .i64 0, .int .i64 0, .int .u64 0, .slice none 0 0, .int .i64 0, .int .i64 0, .int .i64 0, .int .i64 0, .int .u64 0, .int .u64 0, .bool false] ∧ Blk w' (W.heap.size + 1 + 1 + 1) (33) #[.int .i64 0, .int .i64 0, .int .i64 0, .int .u64 0, .int .u64 0, .bool false] ∧ Blk w' (W.heap.size + 1 + 1 + 1 + 1) (33) #[.int .i64 1, .int .i64 sk, .int .i64 so, .int .u64 0, .int .u64 0, .bool false] ∧ Blk w' (W.heap.size + 1 + 1 + 1 + 1 + 1) (35) #[.int .i64 M.c.T, .int .i64 M.c.S, .int .i64 M.c.K, .int .i64 M.c.G, .int .u64 M.c.Q, .slice (some ⟨g, 0, none⟩) M.ws.length cap, .int .i64 (wrap64 (M.many + 1)), .int .i64 1, .int .i64 sk, .int .i64 so, .int .u64 0, .int .u64 0, .bool false] ∧ Below W.heap.size W w') ⟨(by exact got), (by exact got), (by exact got), (by exact got), (by exact got), (by exact got), (by exact got), (by exact gotB)⟩ ?_; (try clear c_Bw f_Bw c_B5 f_B5 c_B7 f_B7 c_R0 f_R0 c_R1 f_R1 c_T f_T c_N f_N); (try clear Bw B5 B7 R0 R1 T N HB); rintro w2 ⟨Bw, B5, B7, R0, R1, T, N, HB⟩
    have c_R0 := R0.cell; have f_R0 := R0.free; have c_R1 := R1.cell; have f_R1 := R1.free
    have T' := T; have N' := N; have HB' := HB; have R0' := R0; have R1' := R1
    replace R0 := Blk.drew R0
    replace R1 := Blk.drew R1
    replace Bw := Blk.drew Bw
    replace HB := Below.drew HB
    refine start_ (n := 4) (S := fun w' => Blk w' (W.heap.size + 1 + 1 + 1 + 1) (33) #[.int .i64 1, .int .i64 sk, .int .i64 so, .int .u64 0, .int .u64 0, .bool false] ∧ Blk w' (W.heap.size + 1 + 1 + 1 + 1 + 1) (35) #[.int .i64 M.c.T, .int .i64 M.c.S, .int .i64 M.c.K, .int .i64 M.c.G, .int .u64 M.c.Q, .slice (some ⟨g, 0, none⟩) M.ws.length cap, .int .i64 (wrap64 (M.many + 1)), .int .i64 1, .int .i64 sk, .int .i64 so, .int .u64 0, .int .u64 0, .bool false] ∧ Below W.heap.size W w') (ds := [3]) #[false, false, false, false] (by kernel_rfl) rfl rfl ⟨(by ((exact got); done)), (by ((exact got); done)), (by ((exact gotB); done))⟩ (fun hHeld => ?_)
    (try clear T)
    (try clear N)
    (try clear HB)
    have ⟨T, N, HB⟩ := hHeld
    refine take_ (i := 0) (N := (some 90)) (v := ?_) (a' := ?_) #[true, false, false, false] rfl rfl (by kernel_rfl) (fun _ _ _ h => h) (Or.inl ⟨by rfl, ?_⟩) hHeld ?_ ?_; rotate_left; (rintro w' ⟨s0, s1, s2⟩; have c_0 := s0.cell; have f_0 := s0.free; have c_1 := s1.cell; have f_1 := s1.free; go_simp; with_reducible rfl); rotate_left; (simp only [Act.put, List.setIfInBounds_toArray, List.set_cons_zero, List.set_cons_succ]; rfl)
    refine take_ (i := 1) (N := (some 91)) (v := ?_) (a' := ?_) #[true, true, false, false] rfl rfl (by kernel_rfl) (fun _ _ _ h => h) (Or.inl ⟨by rfl, ?_⟩) hHeld ?_ ?_; rotate_left; (rintro w' ⟨s0, s1, s2⟩; have c_0 := s0.cell; have f_0 := s0.free; have c_1 := s1.cell; have f_1 := s1.free; go_simp; with_reducible rfl); rotate_left; (simp only [Act.put, List.setIfInBounds_toArray, List.set_cons_zero, List.set_cons_succ]; rfl)
    refine one_ (i := 2) (N := none) #[true, true, true, false] rfl rfl (by kernel_rfl) (by decide) (fun Kc hK => ?_)
    try clear hHeld
    rw [if_pos (by rfl)]
    go_simp
    refine hK.out _ _ ⟨(by ((exact got); done)), (by ((exact got); done)), (by ((exact gotB); done))⟩ (fun hHeld => ?_)
    (try clear T)
    (try clear N)
    (try clear HB)
    have ⟨T, N, HB⟩ := hHeld
    clear hK Kc
    refine norm_ (a' := ?_) ?_ ?_; rotate_left; (first | (show Act.put _ none _ = _; (simp only [Act.put, List.setIfInBounds_toArray, List.set_cons_zero, List.set_cons_succ]; rfl)) | rfl)
    refine last_ (i := 3) (N := none) #[true, true, true, true] rfl rfl (by kernel_rfl) (by decide) (fun Kc hK => ?_)
    try clear hHeld
    rw [if_pos (by rfl)]
    go_simp
    refine hK.out _ _ ?_
    clear hK Kc
    refine norm_ (a' := ?_) ?_ ?_; rotate_left; (first | (show Act.put _ none _ = _; (simp only [Act.put, List.setIfInBounds_toArray, List.set_cons_zero, List.set_cons_succ]; rfl)) | rfl)
    try clear hHeld
    refine done_ (by kernel_rfl) ?_
    go_wp2
    refine body_at (S := fun w' => Blk w' (W.heap.size + 1 + 1) (35) #[.int .i64 M.c.T, .int .i64 M.c.S, .int .i64 M.c.K, .int .i64 M.c.G, .int .u64 M.c.Q, .slice (some ⟨g, 0, none⟩) M.ws.length cap, .int .i64 (wrap64 (M.many + 1)), .int .i64 1, .int .i64 sk, .int .i64 so, .int .u64 0, .int .u64 0, .bool false] ∧ Blk w' (W.heap.size + 1 + 1 + 1) (33) #[.int .i64 1, .int .i64 sk, .int .i64 so, .int .u64 0, .int .u64 0, .bool false] ∧ Below W.heap.size W w') ⟨(by exact got), (by exact got), (by exact gotB)⟩ ?_; (try clear c_R0 f_R0 c_R1 f_R1); (try clear R0 R1 HB); rintro w4 ⟨R0, R1, HB⟩
    have c_R0 := R0.cell
    have c_R1 := R1.cell
    have hM : M.load sk so = { M with last := ⟨1, sk, so, 0, 0, false⟩, many := wrap64 (M.many + 1) } := by
      first | unfold Mem.load | unfold Mem.store
      unfold Mem.acc; rw [if_neg (by omega)]
    rw [hM]
    exact bodyPost_ret (v := .tuple #[.agg (refCells g cap { M with last := ⟨1, sk, so, 0, 0, false⟩, many := wrap64 (M.many + 1) }), tchV ⟨1, sk, so, 0, 0, false⟩]) (by simp [results, Try.results60, c_R0, c_R1, go_sem, refCells, tchV]) rfl ⟨rfl, HB⟩

end Go.Proofs.Ytbgdhahdihbpaaa.Store
end

section
namespace Go.Proofs.Ytbgdhahdihbpaaa.Store
open Go.RowKit Go.IntWalk Go.Proofs.Ytbgdhahdihbpaaa.Own Go.Proofs.Ytbgdhahdihbpaaa.Model
open Go.Proofs.YtbgdhahdihbpaaaW.PrintLast
set_option linter.unusedSimpArgs false
set_option linter.unusedVariables false

set_option maxHeartbeats 1000000 in
theorem refof_c (c : Cfg) (ws : List Int) (n : Nat) (b : Addr) (cap : Nat) (W : World) (h : c.Rt) (hnn : ws.length = n) (hn : (n : Int) = c.len) (hs : Lies W b ws) (hw : ∀ x ∈ ws, 0 ≤ x ∧ x < 18446744073709551616) :
    Calls Try.prog 34 #[cfgV c, .slice (some b) n cap] W fun e W' => ∃ g cap', e = .returned (.agg (refCells g cap' (Mem.start c ws))) ∧ ∃ cur, RefAt W' g cap' cur (Mem.start c ws) ∧ Below W.heap.size W W' ∧ W.heap.size ≤ g := by
  have hr := Cfg.cell_range h 0 0
  have hp : 7 ≤ c.len := by obtain ⟨t1, t2, s1, s2, k1, k2, _⟩ := h; unfold Cfg.len; omega
  have h0 : 0 < n := by omega
  have h1 : n ≤ 100 := by omega
  have HOK := Lib.hid (show (Mem.start c ws).Ok from ⟨h, by show (ws.length : Int) = c.len; rw [hnn]; exact hn, hw⟩)
  clear hw
  unfold cfgV
  go_enter Try.func34, Try.ntmps34
  go_wp2_with fail
  have B1 := (Blk.new W 24 #[.int .i64 c.T, .int .i64 c.S, .int .i64 c.K, .int .i64 c.G, .int .u64 c.Q]).alloc (.cells #[.int .i64 0, .int .i64 0, .int .i64 0, .int .i64 0, .int .u64 0, .slice none 0 0, .int .i64 0, .int .i64 0, .int .i64 0, .int .i64 0, .int .u64 0, .int .u64 0, .bool false] 35)
  have R0 : Blk ((W.alloc (.cells #[.int .i64 c.T, .int .i64 c.S, .int .i64 c.K, .int .i64 c.G, .int .u64 c.Q] 24)).alloc (.cells #[.int .i64 0, .int .i64 0, .int .i64 0, .int .i64 0, .int .u64 0, .slice none 0 0, .int .i64 0, .int .i64 0, .int .i64 0, .int .i64 0, .int .u64 0, .int .u64 0, .bool false] 35)) (W.heap.size + 1) 35 #[.int .i64 0, .int .i64 0, .int .i64 0, .int .i64 0, .int .u64 0, .slice none 0 0, .int .i64 0, .int .i64 0, .int .i64 0, .int .i64 0, .int .u64 0, .int .u64 0, .bool false] := Blk.newAt _ _ _ _ (by simp)
  have HB : Below W.heap.size W ((W.alloc (.cells #[.int .i64 c.T, .int .i64 c.S, .int .i64 c.K, .int .i64 c.G, .int .u64 c.Q] 24)).alloc (.cells #[.int .i64 0, .int .i64 0, .int .i64 0, .int .i64 0, .int .u64 0, .slice none 0 0, .int .i64 0, .int .i64 0, .int .i64 0, .int .i64 0, .int .u64 0, .int .u64 0, .bool false] 35)) := ((Below.refl _ _).alloc (Nat.le_refl _) _).alloc (by simp) _
  have HL := hs.later HB
  have lR := R0.lt
  generalize ((W.alloc (.cells #[.int .i64 c.T, .int .i64 c.S, .int .i64 c.K, .int .i64 c.G, .int .u64 c.Q] 24)).alloc (.cells #[.int .i64 0, .int .i64 0, .int .i64 0, .int .i64 0, .int .u64 0, .slice none 0 0, .int .i64 0, .int .i64 0, .int .i64 0, .int .i64 0, .int .u64 0, .int .u64 0, .bool false] 35)) = w1 at B1 R0 HB HL lR ⊢
  have B1' := B1; have R0' := R0; have HB' := HB; have HL' := HL
  replace HL := Lies.drew HL
  refine start_ (n := 6) (S := fun w' => Blk w' (W.heap.size) (24) #[.int .i64 c.T, .int .i64 c.S, .int .i64 c.K, .int .i64 c.G, .int .u64 c.Q] ∧ Blk w' (W.heap.size + 1) (35) #[.int .i64 0, .int .i64 0, .int .i64 0, .int .i64 0, .int .u64 0, .slice none 0 0, .int .i64 0, .int .i64 0, .int .i64 0, .int .i64 0, .int .u64 0, .int .u64 0, .bool false] ∧ Below W.heap.size W w') (ds := [5]) #[false, false, false, false, false, false] (by kernel_rfl) rfl rfl ⟨(by ((exact got); done)), (by ((exact got); done)), (by ((exact gotB); done))⟩ (fun hHeld => ?_)
  (try clear B1)
  (try clear R0)
  (try clear HB)
  have ⟨B1, R0, HB⟩ := hHeld
  refine pure_ (i := 2) (N := (some 7)) (v := ?_) (a' := ?_) #[false, false, true, false, false, false] rfl rfl (by kernel_rfl) (fun _ _ _ h => h) (Or.inl ⟨by rfl, ?_⟩) ?_ ?_; rotate_left; (intro w'; go_simp; with_reducible rfl); rotate_left; (simp only [Act.put, List.setIfInBounds_toArray, List.set_cons_zero, List.set_cons_succ]; rfl)
  refine take_ (i := 0) (N := (some 5)) (v := ?_) (a' := ?_) #[true, false, true, false, false, false] rfl rfl (by kernel_rfl) (fun _ _ _ h => h) (Or.inl ⟨by rfl, ?_⟩) hHeld ?_ ?_; rotate_left; (rintro w' ⟨s0, s1, s2⟩; have c_0 := s0.cell; have f_0 := s0.free; have c_1 := s1.cell; have f_1 := s1.free; go_simp; with_reducible rfl); rotate_left; (simp only [Act.put, List.setIfInBounds_toArray, List.set_cons_zero, List.set_cons_succ]; rfl)
  refine one_ (i := 1) (N := (some 6)) #[true, true, true, false, false, false] rfl rfl (by kernel_rfl) (by decide) (fun Kc hK => ?_)
  try clear hHeld
  rw [if_pos (by rfl)]
  go_simp
  refine hK.out _ _ ⟨(by ((exact got); done)), (by ((exact got); done)), (by ((exact gotB); done))⟩ (fun hHeld => ?_)
  (try clear B1)
  (try clear R0)
  (try clear HB)
  have ⟨B1, R0, HB⟩ := hHeld
  clear hK Kc
  refine norm_ (a' := ?_) ?_ ?_; rotate_left; (first | (show Act.put _ (some 6) _ = _; (simp only [Act.put, List.setIfInBounds_toArray, List.set_cons_zero, List.set_cons_succ]; rfl)) | rfl)
  refine one_ (i := 3) (N := (some 8)) #[true, true, true, true, false, false] rfl rfl (by kernel_rfl) (by decide) (fun Kc hK => ?_)
  try clear hHeld
  rw [if_pos (by rfl)]
  refine wp_append_words (.tmp 6) (.tmp 7) rfl w1.heap.size b n cap ws rfl rfl ?hE ?hg hnn h0 h1 ?next
  case hE => exact (Blk.newAt _ _ _ _ rfl).drew
  case hg => exact (HL'.alloc _).drew
  intro g' cap' cur' w3 hge B' hh' hk3
  have N_B1 : Blk w3 (W.heap.size) (24) #[.int .i64 c.T, .int .i64 c.S, .int .i64 c.K, .int .i64 c.G, .int .u64 c.Q] := Blk.keep (by exact got) hk3 (by first | assumption | omega | (simp; done) | (simp; omega)); have N_R0 : Blk w3 (W.heap.size + 1) (35) #[.int .i64 0, .int .i64 0, .int .i64 0, .int .i64 0, .int .u64 0, .slice none 0 0, .int .i64 0, .int .i64 0, .int .i64 0, .int .i64 0, .int .u64 0, .int .u64 0, .bool false] := Blk.keep (by exact got) hk3 (by first | assumption | omega | (simp; done) | (simp; omega)); have N_HB : Below W.heap.size W w3 := Below.trans (by exact gotB) (Keep.below hk3 (by first | omega | (simp; omega)) (by intro i hi; (try dsimp only); omega)); (try clear c_B1 f_B1 c_R0 f_R0); (try clear B1 R0 HB); have B1 := N_B1; have R0 := N_R0; have HB := N_HB; clear N_B1 N_R0 N_HB
  refine hK.out _ _ ⟨(by ((exact got); done)), (by ((exact got); done)), (by ((exact gotB); done))⟩ (fun hHeld => ?_)
  (try clear B1)
  (try clear R0)
  (try clear HB)
  have ⟨B1, R0, HB⟩ := hHeld
  clear hK Kc
  refine norm_ (a' := ?_) ?_ ?_; rotate_left; (first | (show Act.put _ (some 8) _ = _; (simp only [Act.put, List.setIfInBounds_toArray, List.set_cons_zero, List.set_cons_succ]; rfl)) | rfl)
  refine pure_ (i := 4) (N := (some 9)) (v := ?_) (a' := ?_) #[true, true, true, true, true, false] rfl rfl (by kernel_rfl) (fun _ _ _ h => h) (Or.inl ⟨by rfl, ?_⟩) ?_ ?_; rotate_left; (intro w'; go_simp; with_reducible rfl); rotate_left; (simp only [Act.put, List.setIfInBounds_toArray, List.set_cons_zero, List.set_cons_succ]; rfl)
  refine last_ (i := 5) (N := none) #[true, true, true, true, true, true] rfl rfl (by kernel_rfl) (by decide) (fun Kc hK => ?_)
  try clear hHeld
  have c_R0 := R0.cell
  have f_R0 := R0.free
  rw [if_pos (by rfl)]
  go_simp
  refine hK.out _ _ ?_
  clear hK Kc
  refine norm_ (a' := ?_) ?_ ?_; rotate_left; (first | (show Act.put _ none _ = _; (simp only [Act.put, List.setIfInBounds_toArray, List.set_cons_zero, List.set_cons_succ]; rfl)) | rfl)
  try clear hHeld
  refine done_ (by kernel_rfl) ?_
  refine then_at (S := fun w' => Blk w' (W.heap.size + 1) (35) #[.int .i64 c.T, .int .i64 c.S, .int .i64 c.K, .int .i64 c.G, .int .u64 c.Q, .slice (some ⟨g', 0, none⟩) n cap', .int .i64 0, .int .i64 0, .int .i64 0, .int .i64 0, .int .u64 0, .int .u64 0, .bool false] ∧ Blk w' (g') (22) cur' ∧ Below W.heap.size W w') ⟨(by exact got), (by exact got), (by exact gotB)⟩ ?_; (try clear c_R0 f_R0 c_B' f_B'); (try clear R0 B' HB); rintro w4 ⟨R0, B', HB⟩
  go_wp2
  have c_R0 := R0.cell
  exact bodyPost_ret (v := .agg (refCells g' cap' (Mem.start c ws))) (by simp [results, Try.results34, c_R0, go_sem, refCells, Mem.start, Tch.none, hnn]) rfl ⟨g', cap', rfl, cur', ⟨B', hh', HOK.out⟩, HB, by omega⟩

def refZero : Value := .agg #[.int .i64 0, .int .i64 0, .int .i64 0, .int .i64 0, .int .u64 0, .slice none 0 0, .int .i64 0, .int .i64 0, .int .i64 0, .int .i64 0, .int .u64 0, .int .u64 0, .bool false]
set_option maxHeartbeats 1000000 in
theorem lawof_none (c : Cfg) (n : Nat) (A : Option Addr) (cap : Nat) (W : World) (h : ¬ (c.Rt ∧ (n : Int) = c.len)) :
    Calls Try.prog 9 #[cfgV c, .slice A n cap] W fun e W' => e = .returned (.tuple #[.pointer none, refZero, .bool false]) ∧ Below W.heap.size W W' := by
  unfold cfgV
  have HB := Below.refl W.heap.size W
  by_cases hr : c.Rt
  · have hd : decide c.Rt = true := by simpa using hr
    have hl : c.lenAny = c.len := by unfold Cfg.lenAny; rw [if_pos hr]
    have hne : ((n : Int) != c.len) = true := by simp; exact fun e => h ⟨hr, e⟩
    clear h
    go_enter Try.func9, Try.ntmps9
    go_wp2_with (first
      | (go_at_call 31; refine (PAgeOldest.refright_calls c _).mono ?_; rintro e w1 ⟨rfl, hb1⟩; have N_C1 : Blk w1 (W.heap.size) (24) #[.int .i64 c.T, .int .i64 c.S, .int .i64 c.K, .int .i64 c.G, .int .u64 c.Q] := Blk.later hb1 (by exact got); have N_R0 : Blk w1 (W.heap.size + 1) (35) #[.int .i64 0, .int .i64 0, .int .i64 0, .int .i64 0, .int .u64 0, .slice none 0 0, .int .i64 0, .int .i64 0, .int .i64 0, .int .i64 0, .int .u64 0, .int .u64 0, .bool false] := Blk.later hb1 (by exact got); have N_HB : Below W.heap.size W w1 := below_step (by exact gotB) hb1; (try clear c_C1 f_C1 c_R0 f_R0); (try clear C1 R0 HB); have C1 := N_C1; have R0 := N_R0; have HB := N_HB; clear N_C1 N_R0 N_HB; have c_C1 := C1.cell; have f_C1 := C1.free; have c_R0 := R0.cell; have f_R0 := R0.free; rw [hd])
      | (go_at_call 32; refine (PAgeOldest.reflen_calls c _).mono ?_; rintro e w2 ⟨rfl, hb2⟩; have N_C1 : Blk w2 (W.heap.size) (24) #[.int .i64 c.T, .int .i64 c.S, .int .i64 c.K, .int .i64 c.G, .int .u64 c.Q] := Blk.later hb2 (by exact got); have N_R0 : Blk w2 (W.heap.size + 1) (35) #[.int .i64 0, .int .i64 0, .int .i64 0, .int .i64 0, .int .u64 0, .slice none 0 0, .int .i64 0, .int .i64 0, .int .i64 0, .int .i64 0, .int .u64 0, .int .u64 0, .bool false] := Blk.later hb2 (by exact got); have N_HB : Below W.heap.size W w2 := below_step (by exact gotB) hb2; (try clear c_C1 f_C1 c_R0 f_R0); (try clear C1 R0 HB); have C1 := N_C1; have R0 := N_R0; have HB := N_HB; clear N_C1 N_R0 N_HB; have c_C1 := C1.cell; have f_C1 := C1.free; have c_R0 := R0.cell; have f_R0 := R0.free; rw [hl]))
    refine body_at (S := fun w' => Blk w' (W.heap.size) (24) #[.int .i64 c.T, .int .i64 c.S, .int .i64 c.K, .int .i64 c.G, .int .u64 c.Q] ∧ Blk w' (W.heap.size + 1) (35) #[.int .i64 0, .int .i64 0, .int .i64 0, .int .i64 0, .int .u64 0, .slice none 0 0, .int .i64 0, .int .i64 0, .int .i64 0, .int .i64 0, .int .u64 0, .int .u64 0, .bool false] ∧ Below W.heap.size W w') ⟨(by exact got), (by exact got), (by exact gotB)⟩ ?_; (try clear c_C1 f_C1 c_R0 f_R0); (try clear C1 R0 HB); rintro w4 ⟨C1, R0, HB⟩
    have c_R0 := R0.cell
    exact bodyPost_ret (v := .tuple #[.pointer none, refZero, .bool false]) (by simp [results, Try.results9, c_R0, go_sem, refZero]) rfl ⟨rfl, HB⟩
  · have hd : decide c.Rt = false := by simpa using hr
    clear h
    have hl : c.lenAny = c.lenAny := rfl
    go_enter Try.func9, Try.ntmps9
    go_wp2_with (first
      | (go_at_call 31; refine (PAgeOldest.refright_calls c _).mono ?_; rintro e w1 ⟨rfl, hb1⟩; have N_C1 : Blk w1 (W.heap.size) (24) #[.int .i64 c.T, .int .i64 c.S, .int .i64 c.K, .int .i64 c.G, .int .u64 c.Q] := Blk.later hb1 (by exact got); have N_R0 : Blk w1 (W.heap.size + 1) (35) #[.int .i64 0, .int .i64 0, .int .i64 0, .int .i64 0, .int .u64 0, .slice none 0 0, .int .i64 0, .int .i64 0, .int .i64 0, .int .i64 0, .int .u64 0, .int .u64 0, .bool false] := Blk.later hb1 (by exact got); have N_HB : Below W.heap.size W w1 := below_step (by exact gotB) hb1; (try clear c_C1 f_C1 c_R0 f_R0); (try clear C1 R0 HB); have C1 := N_C1; have R0 := N_R0; have HB := N_HB; clear N_C1 N_R0 N_HB; have c_C1 := C1.cell; have f_C1 := C1.free; have c_R0 := R0.cell; have f_R0 := R0.free; rw [hd])
      | (go_at_call 32; refine (PAgeOldest.reflen_calls c _).mono ?_; rintro e w2 ⟨rfl, hb2⟩; have N_C1 : Blk w2 (W.heap.size) (24) #[.int .i64 c.T, .int .i64 c.S, .int .i64 c.K, .int .i64 c.G, .int .u64 c.Q] := Blk.later hb2 (by exact got); have N_R0 : Blk w2 (W.heap.size + 1) (35) #[.int .i64 0, .int .i64 0, .int .i64 0, .int .i64 0, .int .u64 0, .slice none 0 0, .int .i64 0, .int .i64 0, .int .i64 0, .int .i64 0, .int .u64 0, .int .u64 0, .bool false] := Blk.later hb2 (by exact got); have N_HB : Below W.heap.size W w2 := below_step (by exact gotB) hb2; (try clear c_C1 f_C1 c_R0 f_R0); (try clear C1 R0 HB); have C1 := N_C1; have R0 := N_R0; have HB := N_HB; clear N_C1 N_R0 N_HB; have c_C1 := C1.cell; have f_C1 := C1.free; have c_R0 := R0.cell; have f_R0 := R0.free; rw [hl]))
    refine body_at (S := fun w' => Blk w' (W.heap.size) (24) #[.int .i64 c.T, .int .i64 c.S, .int .i64 c.K, .int .i64 c.G, .int .u64 c.Q] ∧ Blk w' (W.heap.size + 1) (35) #[.int .i64 0, .int .i64 0, .int .i64 0, .int .i64 0, .int .u64 0, .slice none 0 0, .int .i64 0, .int .i64 0, .int .i64 0, .int .i64 0, .int .u64 0, .int .u64 0, .bool false] ∧ Below W.heap.size W w') ⟨(by exact got), (by exact got), (by exact gotB)⟩ ?_; (try clear c_C1 f_C1 c_R0 f_R0); (try clear C1 R0 HB); rintro w4 ⟨C1, R0, HB⟩
    have c_R0 := R0.cell
    exact bodyPost_ret (v := .tuple #[.pointer none, refZero, .bool false]) (by simp [results, Try.results9, c_R0, go_sem, refZero]) rfl ⟨rfl, HB⟩

set_option maxHeartbeats 1000000 in
theorem lawof_c (c : Cfg) (ws : List Int) (n : Nat) (b : Addr) (cap : Nat) (W : World) (h : c.Rt) (hnn : ws.length = n) (hn : (n : Int) = c.len) (hs : Lies W b ws) (hw : ∀ x ∈ ws, 0 ≤ x ∧ x < 18446744073709551616) :
    Calls Try.prog 9 #[cfgV c, .slice (some b) n cap] W fun e W' => ∃ m g cap', e = .returned (.tuple #[.pointer (some ⟨m, 0, none⟩), .agg (refCells g cap' (Mem.start c ws)), .bool true]) ∧ ∃ wb cur, MemAt W' m wb (Mem.start c ws) ∧ RefAt W' g cap' cur (Mem.start c ws) ∧ Below W.heap.size W W' ∧ W.heap.size ≤ m ∧ W.heap.size ≤ wb ∧ W.heap.size ≤ g ∧ g ≠ wb := by
  have hd : decide c.Rt = true := by simpa using h
  have hl : c.lenAny = c.len := by unfold Cfg.lenAny; rw [if_pos h]
  have hne : ((n : Int) != c.len) = false := by simp [hn]
  have HB := Below.refl W.heap.size W
  have HW := Lib.hid hw
  clear hw
  unfold cfgV
  go_enter Try.func9, Try.ntmps9
  go_wp2_with (first
    | (go_at_call 31; refine (PAgeOldest.refright_calls c _).mono ?_; rintro e w1 ⟨rfl, hb1⟩; have N_C1 : Blk w1 (W.heap.size) (24) #[.int .i64 c.T, .int .i64 c.S, .int .i64 c.K, .int .i64 c.G, .int .u64 c.Q] := Blk.later hb1 (by exact got); have N_R0 : Blk w1 (W.heap.size + 1) (35) #[.int .i64 0, .int .i64 0, .int .i64 0, .int .i64 0, .int .u64 0, .slice none 0 0, .int .i64 0, .int .i64 0, .int .i64 0, .int .i64 0, .int .u64 0, .int .u64 0, .bool false] := Blk.later hb1 (by exact got); have N_HB : Below W.heap.size W w1 := below_step (by exact gotB) hb1; (try clear c_C1 f_C1 c_R0 f_R0); (try clear C1 R0 HB); have C1 := N_C1; have R0 := N_R0; have HB := N_HB; clear N_C1 N_R0 N_HB; have c_C1 := C1.cell; have f_C1 := C1.free; have c_R0 := R0.cell; have f_R0 := R0.free; rw [hd])
    | (go_at_call 32; refine (PAgeOldest.reflen_calls c _).mono ?_; rintro e w2 ⟨rfl, hb2⟩; have N_C1 : Blk w2 (W.heap.size) (24) #[.int .i64 c.T, .int .i64 c.S, .int .i64 c.K, .int .i64 c.G, .int .u64 c.Q] := Blk.later hb2 (by exact got); have N_R0 : Blk w2 (W.heap.size + 1) (35) #[.int .i64 0, .int .i64 0, .int .i64 0, .int .i64 0, .int .u64 0, .slice none 0 0, .int .i64 0, .int .i64 0, .int .i64 0, .int .i64 0, .int .u64 0, .int .u64 0, .bool false] := Blk.later hb2 (by exact got); have N_HB : Below W.heap.size W w2 := below_step (by exact gotB) hb2; (try clear c_C1 f_C1 c_R0 f_R0); (try clear C1 R0 HB); have C1 := N_C1; have R0 := N_R0; have HB := N_HB; clear N_C1 N_R0 N_HB; have c_C1 := C1.cell; have f_C1 := C1.free; have c_R0 := R0.cell; have f_R0 := R0.free; rw [hl])
    | (go_at_call 33; refine (of_n c ws n b cap _ h hnn hn (hs.later HB) HW.out).mono ?_; rintro e w3 ⟨m, rfl, wb, hM, hb3, hm, hwb⟩; have hz2 := HB.size; have lR2 := R0.lt; have N_C1 : Blk w3 (W.heap.size) (24) #[.int .i64 c.T, .int .i64 c.S, .int .i64 c.K, .int .i64 c.G, .int .u64 c.Q] := Blk.later hb3 (by exact got); have N_R0 : Blk w3 (W.heap.size + 1) (35) #[.int .i64 0, .int .i64 0, .int .i64 0, .int .i64 0, .int .u64 0, .slice none 0 0, .int .i64 0, .int .i64 0, .int .i64 0, .int .i64 0, .int .u64 0, .int .u64 0, .bool false] := Blk.later hb3 (by exact got); have N_HB : Below W.heap.size W w3 := below_step (by exact gotB) hb3; (try clear c_C1 f_C1 c_R0 f_R0); (try clear C1 R0 HB); have C1 := N_C1; have R0 := N_R0; have HB := N_HB; clear N_C1 N_R0 N_HB; have c_C1 := C1.cell; have f_C1 := C1.free; have c_R0 := R0.cell; have f_R0 := R0.free)
    | (go_at_call 34; refine (refof_c c ws n b cap _ h hnn hn (hs.later HB) HW.out).mono ?_; rintro e w4 ⟨g, cap', rfl, cur, hR, hb4, hg⟩; have hlt := hM.words.lt; have hM4 := hM.later hb4; have hz3 := HB.size; have hz23 := hb3.size; have N_C1 : Blk w4 (W.heap.size) (24) #[.int .i64 c.T, .int .i64 c.S, .int .i64 c.K, .int .i64 c.G, .int .u64 c.Q] := Blk.later hb4 (by exact got); have N_R0 : Blk w4 (W.heap.size + 1) (35) #[.int .i64 0, .int .i64 0, .int .i64 0, .int .i64 0, .int .u64 0, .slice none 0 0, .int .i64 0, .int .i64 0, .int .i64 0, .int .i64 0, .int .u64 0, .int .u64 0, .bool false] := Blk.later hb4 (by exact got); have N_HB : Below W.heap.size W w4 := below_step (by exact gotB) hb4; (try clear c_C1 f_C1 c_R0 f_R0); (try clear C1 R0 HB); have C1 := N_C1; have R0 := N_R0; have HB := N_HB; clear N_C1 N_R0 N_HB; have c_C1 := C1.cell; have f_C1 := C1.free; have c_R0 := R0.cell; have f_R0 := R0.free; rw [show refCells g cap' (Mem.start c ws) = #[.int .i64 c.T, .int .i64 c.S, .int .i64 c.K, .int .i64 c.G, .int .u64 c.Q, .slice (some ⟨g, 0, none⟩) ws.length cap', .int .i64 0, .int .i64 0, .int .i64 0, .int .i64 0, .int .u64 0, .int .u64 0, .bool false] from rfl]; have Bm := hM4.obj; have Bw := hM4.words; have Bg := hR.words))
  refine body_at (S := fun w' => Blk w' (W.heap.size + 1) (35) #[.int .i64 c.T, .int .i64 c.S, .int .i64 c.K, .int .i64 c.G, .int .u64 c.Q, .slice (some ⟨g, 0, none⟩) n cap', .int .i64 0, .int .i64 0, .int .i64 0, .int .i64 0, .int .u64 0, .int .u64 0, .bool false] ∧ Blk w' (m) (85) (memCells wb (Mem.start c ws)) ∧ Blk w' (wb) (22) (wordsV (Mem.start c ws).ws) ∧ Blk w' (g) (22) cur ∧ Below W.heap.size W w') ⟨(by exact got), (by exact got), (by exact got), (by exact got), (by exact gotB)⟩ ?_; (try clear c_R0 f_R0 c_Bm f_Bm c_Bw f_Bw c_Bg f_Bg); (try clear R0 Bm Bw Bg HB); rintro w5 ⟨R0, Bm, Bw, Bg, HB⟩
  have c_R0 := R0.cell
  exact bodyPost_ret (v := .tuple #[.pointer (some ⟨m, 0, none⟩), .agg (refCells g cap' (Mem.start c ws)), .bool true]) (by simp [results, Try.results9, c_R0, go_sem, refCells, Mem.start, Tch.none, hnn]) rfl ⟨m, g, cap', rfl, wb, cur, ⟨Bm, Bw, hM.ok⟩, ⟨Bg, hR.heads, hR.ok⟩, HB, by omega, by omega, by omega, by omega⟩
end Go.Proofs.Ytbgdhahdihbpaaa.Store
end

section
namespace Go.Proofs.Ytbgdhahdihbpaaa.Age
open Go.RowKit Go.IntWalk Go.Proofs.Ytbgdhahdihbpaaa.Own Go.Proofs.Ytbgdhahdihbpaaa.Model Go.Proofs.Ytbgdhahdihbpaaa.Store Go.Proofs.Ytbgdhahdihbpaaa.Status
set_option linter.unusedSimpArgs false
set_option linter.unusedVariables false

def stepN : Nat → AgeS × Mem → AgeS × Mem
  | 0, x => x
  | k + 1, x => (stepN k x).1.step (stepN k x).2

theorem step_slots (A : AgeS) (M : Mem) : (A.step M).1.slots = A.slots := by
  unfold AgeS.step AgeS.passed; dsimp only; repeat' split
  all_goals rfl
theorem stepN_slots (k : Nat) (x : AgeS × Mem) : (stepN k x).1.slots = x.1.slots := by
  induction k with
  | zero => rfl
  | succ k ih => unfold stepN; rw [step_slots, ih]

set_option maxHeartbeats 1000000 in
theorem lawends_c (a k1 k2 k3 m wb most : Nat) (A : AgeS) (M : Mem) (W : World) (h : AgeAt W a k1 k2 k3 A) (hm : MemAt W m wb M) (hs : A.slots ≤ 900) (hmost : most ≤ 100) :
    Calls Try.prog 12 #[.pointer (some ⟨a, 0, none⟩), .pointer (some ⟨m, 0, none⟩), .int .i64 most] W
      fun e W' => ∃ k : Nat, e = .returned (.tuple #[.bool (stepN k (A, M)).1.later, .int .i64 k]) ∧ k ≤ most ∧ (k = most ∨ (stepN k (A, M)).1.done = true) ∧ AgeAt W' a k1 k2 k3 (stepN k (A, M)).1 ∧ MemAt W' m wb (stepN k (A, M)).2 ∧ Keep (fun i => i = a ∨ i = k1 ∨ i = m ∨ i = wb) W W' := by
  go_enter Try.func12, Try.ntmps12
  go_wp2
  go_loopw [10] (fun i wr => ∃ k : Nat, k ≤ most ∧ i = .int .i64 k ∧ AgeAt wr a k1 k2 k3 (stepN k (A, M)).1 ∧ MemAt wr m wb (stepN k (A, M)).2 ∧ Keep (fun i => i = a ∨ i = k1 ∨ i = m ∨ i = wb) W wr)
               (fun i _ => most - (intOf i).toNat)
  case atStart => exact ⟨0, Nat.zero_le _, rfl, h, hm, Keep.refl _ _⟩
  case round =>
    obtain ⟨k, hk, rfl, hA, hM, hK⟩ := hrel
    have hsl : (stepN k (A, M)).1.slots ≤ 900 := by rw [stepN_slots]; exact hs
    rcases Nat.lt_or_ge k most with hlt | hge
    · cases hd : (stepN k (A, M)).1.done
      · have HD := Lib.hid hd
        clear hd
        go_wp2_with (first
          | (go_at_call 15; refine (done_c _ _ _ _ _ _ hA).mono ?_; rintro e w1 ⟨rfl, rfl⟩; rw [HD.out])
          | (go_at_call 27; refine (step_c _ _ _ _ _ _ _ _ _ hA hM hsl).mono ?_; rintro e w2 ⟨rfl, hA2, hM2, hK2⟩))
        go_roundw
        case rel => exact ⟨k + 1, by omega, by go_num, hA2, hM2, hK.trans hK2⟩
        case measure => simp [intOf]; omega
      · have HD := Lib.hid hd
        clear hd
        go_wp2_with (first
          | (go_at_call 15; refine (done_c _ _ _ _ _ _ hA).mono ?_; rintro e w1 ⟨rfl, rfl⟩; rw [HD.out])
          | (go_at_call 30; refine (later_c _ _ _ _ _ _ hA).mono ?_; rintro e w2 ⟨rfl, rfl⟩))
        go_ret2
        exact ⟨k, rfl, hk, .inr HD.out, hA, hM, hK⟩
    · have he : k = most := by omega
      subst he
      go_wp2_with (go_at_call 30; refine (later_c _ _ _ _ _ _ hA).mono ?_; rintro e w2 ⟨rfl, rfl⟩)
      go_ret2
      exact ⟨k, rfl, hk, .inl rfl, hA, hM, hK⟩
end Go.Proofs.Ytbgdhahdihbpaaa.Age
end

section
namespace Go.Proofs.Ytbgdhahdihbpaaa.Age
open Go.RowKit Go.IntWalk Go.Proofs.Ytbgdhahdihbpaaa.Own Go.Proofs.Ytbgdhahdihbpaaa.Model Go.Proofs.Ytbgdhahdihbpaaa.Store Go.Proofs.Ytbgdhahdihbpaaa.Status
set_option linter.unusedSimpArgs false
set_option linter.unusedVariables false

/-- Whether a slot is a reason to be later. -/
def goesAt (M : Mem) (number j : Int) : Bool := partI (M.at 4 j) 27 3 == 1 || ((partI (M.at 4 j) 27 3 == 2 || partI (M.at 4 j) 27 3 == 3) && decide (M.at 5 j < number))
def anyFrom (M : Mem) (slots slot number p : Int) : Prop := ∃ j, p ≤ j ∧ j < slots ∧ j ≠ slot ∧ goesAt M number j = true

theorem list_set_same (l : List Int) (n : Nat) : l.set n (l.getD n 0) = l := by
  apply List.ext_getElem?
  intro i
  rw [List.getElem?_set]
  split
  · rename_i h; subst h
    split
    · rename_i h; rw [List.getD_eq_getElem?_getD, List.getElem?_eq_getElem h]; rfl
    · rename_i h; rw [List.getElem?_eq_none (by omega)]
  · rfl
theorem load_ws (M : Mem) (kind of : Int) : (M.load kind of).ws = M.ws := by
  unfold Mem.load Mem.acc
  split
  · rename_i h
    show M.ws.set _ (M.at kind of) = _
    unfold Mem.at; rw [if_pos h]; exact list_set_same _ _
  · rfl
theorem load_c' (M : Mem) (kind of : Int) : (M.load kind of).c = M.c := Mem.acc_c _ _ _ _ _
theorem at_of {M M' : Mem} (hc : M'.c = M.c) (hw : M'.ws = M.ws) (kind of : Int) : M'.at kind of = M.at kind of := by
  unfold Mem.at; rw [hc, hw]
theorem step_ws (A : AgeS) (M : Mem) : (A.step M).2.ws = M.ws ∧ (A.step M).2.c = M.c := by
  unfold AgeS.step
  split
  · exact ⟨rfl, rfl⟩
  · split
    · exact ⟨load_ws _ _ _, load_c' _ _ _⟩
    · exact ⟨load_ws _ _ _, load_c' _ _ _⟩
theorem step_eq (A : AgeS) {M M' : Mem} (hc : M'.c = M.c) (hw : M'.ws = M.ws) : (A.step M').1 = (A.step M).1 := by
  unfold AgeS.step
  simp only [at_of hc hw]
  split
  · rfl
  · split <;> rfl
theorem stepN_mem (k : Nat) (A : AgeS) (M : Mem) : (stepN k (A, M)).2.ws = M.ws ∧ (stepN k (A, M)).2.c = M.c := by
  induction k with
  | zero => exact ⟨rfl, rfl⟩
  | succ k ih =>
    unfold stepN
    have := step_ws (stepN k (A, M)).1 (stepN k (A, M)).2
    exact ⟨this.1.trans ih.1, this.2.trans ih.2⟩
/-- The same, over words that do not change. -/
def runN (M : Mem) : Nat → AgeS → AgeS
  | 0, A => A
  | k + 1, A => runN M k (A.step M).1
theorem runN_succ (M : Mem) (k : Nat) (A : AgeS) : runN M (k + 1) A = ((runN M k A).step M).1 := by
  induction k generalizing A with
  | zero => rfl
  | succ k ih => exact ih _
theorem stepN_run (k : Nat) (A : AgeS) (M : Mem) : (stepN k (A, M)).1 = runN M k A := by
  induction k with
  | zero => rfl
  | succ k ih =>
    rw [runN_succ, ← ih]
    show ((stepN k (A, M)).1.step (stepN k (A, M)).2).1 = _
    exact step_eq _ (stepN_mem k A M).2 (stepN_mem k A M).1
theorem run_done (M : Mem) (k : Nat) (A : AgeS) (h : A.done = true) : runN M k A = A := by
  induction k with
  | zero => rfl
  | succ k ih => unfold runN; rw [show (A.step M).1 = A by unfold AgeS.step; rw [if_pos h], ih]
theorem run_add (M : Mem) (a b : Nat) (A : AgeS) : runN M (a + b) A = runN M b (runN M a A) := by
  induction a generalizing A with
  | zero => simp [runN]
  | succ a ih => rw [show a + 1 + b = (a + b) + 1 by omega]; exact ih _

theorem from_pass {M : Mem} {slots slot number p : Int} (hp : p < slots) (hg : goesAt M number p = false) : anyFrom M slots slot number p ↔ anyFrom M slots slot number (nx p slot) := by
  unfold nx
  constructor
  · rintro ⟨j, h1, h2, h3, h4⟩
    by_cases e : j = p
    · subst e; rw [hg] at h4; cases h4
    · refine ⟨j, ?_, h2, h3, h4⟩
      split
      · rename_i hh; omega
      · omega
  · rintro ⟨j, h1, h2, h3, h4⟩
    refine ⟨j, ?_, h2, h3, h4⟩
    split at h1 <;> omega
theorem run_from (M : Mem) (slots slot number : Int) : ∀ (d : Nat) (p : Int), slots - p ≤ d → p ≠ slot → ∃ k, k ≤ 2 * d ∧ (runN M k ⟨slots, slot, number, p, false, false⟩).done = true ∧ ((runN M k ⟨slots, slot, number, p, false, false⟩).later = true ↔ anyFrom M slots slot number p) := by
  intro d
  induction d with
  | zero =>
    intro p hd hs
    have dn : (runN M 0 ⟨slots, slot, number, p, false, false⟩).done = true := by
      show (false || decide (slots ≤ p)) = true
      rw [decide_eq_true (by omega : slots ≤ p)]; rfl
    refine ⟨0, by omega, dn, by simp [runN], ?_⟩
    rintro ⟨j, h1, h2, _⟩
    omega
  | succ d ih =>
    intro p hd hs
    by_cases hp : slots ≤ p
    · have dn : (runN M 0 ⟨slots, slot, number, p, false, false⟩).done = true := by
        show (false || decide (slots ≤ p)) = true
        rw [decide_eq_true hp]; rfl
      refine ⟨0, by omega, dn, by simp [runN], ?_⟩
      rintro ⟨j, h1, h2, _⟩
      omega
    have hps : nx p slot ≠ slot := by unfold nx; split <;> omega
    have hnx := nx_range p slot
    obtain ⟨k, hk, hkd, hkl⟩ := ih (nx p slot) (by omega) hps
    have hnd : (⟨slots, slot, number, p, false, false⟩ : AgeS).done = false := by simp [AgeS.done]; omega
    have hnd2 : (⟨slots, slot, number, p, true, false⟩ : AgeS).done = false := by simp [AgeS.done]; omega
    have pass : (⟨slots, slot, number, p, false, false⟩ : AgeS).passed = ⟨slots, slot, number, nx p slot, false, false⟩ := rfl
    have pass2 : (⟨slots, slot, number, p, true, false⟩ : AgeS).passed = ⟨slots, slot, number, nx p slot, false, false⟩ := rfl
    have s0 : ((⟨slots, slot, number, p, false, false⟩ : AgeS).step M).1 = if partI (M.at 4 p) 27 3 = 1 then ⟨slots, slot, number, p, false, true⟩ else if partI (M.at 4 p) 27 3 = 2 ∨ partI (M.at 4 p) 27 3 = 3 then ⟨slots, slot, number, p, true, false⟩ else ⟨slots, slot, number, nx p slot, false, false⟩ := by
      unfold AgeS.step; rw [if_neg (by rw [hnd]; simp), if_neg (by simp)]
      dsimp only [AgeS.passed]
    by_cases h1 : partI (M.at 4 p) 27 3 = 1
    · refine ⟨1, by omega, ?_⟩
      have : runN M 1 ⟨slots, slot, number, p, false, false⟩ = ⟨slots, slot, number, p, false, true⟩ := by
        show ((⟨slots, slot, number, p, false, false⟩ : AgeS).step M).1 = _
        rw [s0, if_pos h1]
      rw [this]
      refine ⟨rfl, ⟨fun _ => ⟨p, by omega, by omega, hs, by simp [goesAt, h1]⟩, fun _ => rfl⟩⟩
    · by_cases h23 : partI (M.at 4 p) 27 3 = 2 ∨ partI (M.at 4 p) 27 3 = 3
      · have hs1 : ((⟨slots, slot, number, p, false, false⟩ : AgeS).step M).1 = ⟨slots, slot, number, p, true, false⟩ := by rw [s0, if_neg h1, if_pos h23]
        have s2 : ((⟨slots, slot, number, p, true, false⟩ : AgeS).step M).1 = if M.at 5 p < number then ⟨slots, slot, number, p, true, true⟩ else ⟨slots, slot, number, nx p slot, false, false⟩ := by
          unfold AgeS.step; rw [if_neg (by rw [hnd2]; simp), if_pos rfl]
          dsimp only [AgeS.passed]
        by_cases hl : M.at 5 p < number
        · refine ⟨2, by omega, ?_⟩
          have : runN M 2 ⟨slots, slot, number, p, false, false⟩ = ⟨slots, slot, number, p, true, true⟩ := by
            show (((⟨slots, slot, number, p, false, false⟩ : AgeS).step M).1.step M).1 = _
            rw [hs1, s2, if_pos hl]
          rw [this]
          refine ⟨rfl, ⟨fun _ => ⟨p, by omega, by omega, hs, ?_⟩, fun _ => rfl⟩⟩
          rcases h23 with h | h <;> simp [goesAt, h, hl]
        · have hg : goesAt M number p = false := by rcases h23 with h | h <;> simp [goesAt, h] <;> omega
          refine ⟨2 + k, by omega, ?_⟩
          rw [run_add, show runN M 2 ⟨slots, slot, number, p, false, false⟩ = ⟨slots, slot, number, nx p slot, false, false⟩ by
            show (((⟨slots, slot, number, p, false, false⟩ : AgeS).step M).1.step M).1 = _
            rw [hs1, s2, if_neg hl]]
          exact ⟨hkd, hkl.trans (from_pass (by omega) hg).symm⟩
      · have hg : goesAt M number p = false := by
          simp only [not_or] at h23
          simp [goesAt, h1, h23.1, h23.2]
        refine ⟨1 + k, by omega, ?_⟩
        rw [run_add, show runN M 1 ⟨slots, slot, number, p, false, false⟩ = ⟨slots, slot, number, nx p slot, false, false⟩ by
            show ((⟨slots, slot, number, p, false, false⟩ : AgeS).step M).1 = _
            rw [s0, if_neg h1, if_neg h23]]
        exact ⟨hkd, hkl.trans (from_pass (by omega) hg).symm⟩
/-- A new age, gone on with to its end within so many steps. -/
theorem ended (M : Mem) (slots slot number : Int) (k : Nat) (hS : 0 ≤ slots ∧ slots ≤ 12) (hk : k = 100 ∨ (stepN k (AgeS.new slots slot number, M)).1.done = true) :
    (stepN k (AgeS.new slots slot number, M)).1.done = true ∧ ((stepN k (AgeS.new slots slot number, M)).1.later = true ↔ anyFrom M slots slot number 0) := by
  have hn : AgeS.new slots slot number = ⟨slots, slot, number, nx (-1) slot, false, false⟩ := rfl
  have hs : nx (-1) slot ≠ slot := by unfold nx; split <;> omega
  have hx := nx_range (-1) slot
  obtain ⟨d, hd⟩ := Int.eq_ofNat_of_zero_le hS.1
  obtain ⟨j, hj, hjd, hjl⟩ := run_from M slots slot number d (nx (-1) slot) (by omega) hs
  have h0 : anyFrom M slots slot number 0 ↔ anyFrom M slots slot number (nx (-1) slot) := by
    unfold nx
    constructor
    · rintro ⟨i, h1, h2, h3, h4⟩
      refine ⟨i, ?_, h2, h3, h4⟩
      split <;> omega
    · rintro ⟨i, h1, h2, h3, h4⟩
      refine ⟨i, ?_, h2, h3, h4⟩
      split at h1 <;> omega
  rw [stepN_run] at hk ⊢
  rw [hn] at hk ⊢
  have key : runN M k ⟨slots, slot, number, nx (-1) slot, false, false⟩ = runN M j ⟨slots, slot, number, nx (-1) slot, false, false⟩ := by
    rcases Nat.le_total j k with h | h
    · obtain ⟨e, rfl⟩ := Nat.exists_eq_add_of_le h
      rw [run_add, run_done _ _ _ hjd]
    · rcases hk with rfl | hk
      · omega
      · obtain ⟨e, rfl⟩ := Nat.exists_eq_add_of_le h
        rw [run_add, run_done _ _ _ hk]
  rw [key]
  exact ⟨hjd, hjl.trans h0.symm⟩
end Go.Proofs.Ytbgdhahdihbpaaa.Age
end

section
namespace Go.Proofs.Ytbgdhahdihbpaaa.Age
open Go.RowKit Go.IntWalk Go.Proofs.Ytbgdhahdihbpaaa.Own Go.Proofs.Ytbgdhahdihbpaaa.Model Go.Proofs.Ytbgdhahdihbpaaa.Store Go.Proofs.Ytbgdhahdihbpaaa.Status
set_option linter.unusedSimpArgs false
set_option linter.unusedVariables false

/-- Whether one of the first slots, but one, is a reason. -/
def anyN (M : Mem) (slot number : Int) : Nat → Bool
  | 0 => false
  | k + 1 => anyN M slot number k || (k : Int) != slot && goesAt M number k
theorem anyN_is (M : Mem) (slot number : Int) (n : Nat) : anyN M slot number n = true ↔ anyFrom M n slot number 0 := by
  induction n with
  | zero => simp [anyN, anyFrom]; intro j h0 h1; omega
  | succ n ih =>
    unfold anyN
    rw [Bool.or_eq_true, ih, Bool.and_eq_true]
    constructor
    · rintro (⟨j, h0, h1, h2⟩ | ⟨h1, h2⟩)
      · exact ⟨j, h0, by omega, h2⟩
      · exact ⟨n, by omega, by omega, by simpa using h1, h2⟩
    · rintro ⟨j, h0, h1, h2, h3⟩
      by_cases e : j = n
      · subst e; exact .inr ⟨by simpa using h2, h3⟩
      · exact .inl ⟨j, h0, by omega, h2, h3⟩
theorem anyN_mono (M : Mem) (slot a b : Int) (h : a ≤ b) (n : Nat) (ha : anyN M slot a n = true) : anyN M slot b n = true := by
  rw [anyN_is] at ha ⊢
  obtain ⟨j, h0, h1, h2, h3⟩ := ha
  refine ⟨j, h0, h1, h2, ?_⟩
  unfold goesAt at h3 ⊢
  simp only [Bool.or_eq_true, Bool.and_eq_true, beq_iff_eq, decide_eq_true_eq] at h3 ⊢
  rcases h3 with h3 | ⟨h3, h4⟩
  · exact .inl h3
  · exact .inr ⟨h3, by omega⟩
/-- The oldest one's steps: only the beginning ones. -/
theorem goes_zero (M : Mem) (h : M.Ok) (j : Int) : goesAt M 0 j = (partI (M.at 4 j) 27 3 == 1) := by
  unfold goesAt
  have := (Mem.at_range h 5 j).1
  rw [show decide (M.at 5 j < 0) = false by simp; omega]
  simp
end Go.Proofs.Ytbgdhahdihbpaaa.Age
end
