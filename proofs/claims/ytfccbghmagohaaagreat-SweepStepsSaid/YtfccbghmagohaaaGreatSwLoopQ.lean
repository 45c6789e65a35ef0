/- The loop of the law SweepSteps: it comes to its end. No condition. -/
import Derived.Test.YtfccbghmagohaaaGreatSwKA
import Derived.Test.YtfccbghmagohaaaGreatSwKB
import Derived.Test.YtfccbghmagohaaaGreatSwKC
import Derived.Test.YtfccbghmagohaaaGreatWinRowQ
import Derived.Test.YtfccbghmagohaaaGreatSwAliveQ
namespace Go.Proofs.YtfccbghmagohaaaGreat.Bound
open Go.Proofs.YtfccbghmagohaaaGreat.Ev Go.Proofs.YtfccbghmagohaaaGreat.ChartMath
set_option linter.unusedVariables false
set_option linter.unusedSimpArgs false
def swM : List Atom → Nat
  | .n _ :: .i len :: .i k :: _ => (len - k).toNat
  | _ => 0
def swOut (cells : List Int) (rs : List (List Int)) : List Atom → Tree (Ex × List Atom) := fun _ => .leaf (.exit 0, [.n 0, .ws cells, .rs rs])
theorem bodySw_is : bodyOf 7 = some ((bodyOf 7).getD .skip) := by kernel_rfl
theorem si_step (f : Bool) (T S K G Q : Int) (l c : Nat) (len : Int) (cells : List Int) (rs : List (List Int)) (pt ph steps : Int) (pn pc : Nat) (x : List Atom) (hI : ∃ k, SI f T S K G Q l c len cells rs pt ph steps pn pc k x) : ∃ e y, (roundM sumsS2 60 7 9 2 (SMf f) x).get = some (e, y) ∧ (e = .normal → (∃ k, SI f T S K G Q l c len cells rs pt ph steps pn pc k y) ∧ swM y < swM x ∧ (swOut cells rs y).get = (swOut cells rs x).get) ∧ (e ≠ .normal → (swOut cells rs x).get = some (e, y)) := by
  obtain ⟨k, hI⟩ := hI
  have hx : swM x = (len - k).toNat := by cases hI <;> rfl
  have hg : Gone f T S K G Q l c len cells rs pt ph steps pn pc k (roundM sumsS2 60 7 9 2 (SMf f) x) := by
    cases hI with
    | enter s _ th eh cl es ec etakes eword xat xw xr xn gw ax asl an aa ak al po pr pp pl lx ly lk lw ld hb h1 => exact h_enter_step (hg := hb) (hc := h1) ..
    | number s _ th sl gn cl xat xw xr xn gh gt gs gw ge gd ax asl an aa ak al po pr pp pl lx ly lk lw ld hb h1 => exact h_number_step (hg := hb) (hc := h1) ..
    | agedL s _ th sl gn cl aother anumber xat xw xr xn gh gt gs gw ge gd po pr pp pl lx ly lk lw ld hb h1 => exact h_agedL_step (hg := hb) (hc := h1) ..
    | agedS s _ th sl gn cl aother anumber xat xw xr xn gh gt gs gw ge gd po pr pp pl lx ly lk lw ld hb h1 => exact h_agedS_step (hg := hb) (hc := h1) ..
    | die s _ th sl gn cl xat xw xr xn gh gt gs gw ge gd ax asl an aa ak al po pr pp pl lx ly lk lw ld hb h1 => exact h_die_step (hg := hb) (hc := h1) ..
    | dead s _ th sl gn cl w xat xr xn gh gt gs gw ge gd ax asl an aa ak al po pr pp pl lx ly lk lw ld hb h1 => exact h_dead_step (hg := hb) (hc := h1) ..
    | tick s _ th sl gn cl xat xw xr xn gh gt gs gw ge gd ax asl an aa ak al po pr pp pl lx ly lk lw ld hb h1 => exact h_tick_step (hg := hb) (hc := h1) ..
    | note s _ th sl gn cl r xat xw xn gh gt gs gw ge gd ax asl an aa ak al po pr pp pl lx ly lk lw ld hb h1 => exact h_note_step (hg := hb) (hc := h1) ..
    | retired s _ th sl gn cl xat xw xr xn gh gt gs gw ge gd ax asl an aa ak al po pr pp pl lx ly lk lw ld hb h1 => exact h_retired_step (hg := hb) (hc := h1) ..
    | graceA s _ th sl gn cl gat gret xat xw xr xn gh gt gs gw ge gd ax asl an aa ak al lx ly lk lw ld hb h1 => exact h_graceA_step (hg := hb) (hc := h1) ..
    | graceB s _ th sl gn cl gret xat xw xr xn gh gt gs gw ge gd ax asl an aa ak al lx ly lk lw ld hb h1 => exact h_graceB_step (hg := hb) (hc := h1) ..
    | keys s _ th sl gn a cl xw xr xn gh gt gs gw ge gd ax asl an aa ak al po pr pp pl lx ly lk lw ld hb h1 => exact h_keys_step (hg := hb) (hc := h1) ..
    | unmark s _ th sl gn a cl w xr xn gh gt gs gw ge gd ax asl an aa ak al po pr pp pl lx ly lk lw ld hb h1 => exact h_unmark_step (hg := hb) (hc := h1) ..
    | past s _ th sl gn cl xat xw xr xn gh gt gs gw ge gd ax asl an aa ak al po pr pp pl lx ly lk lw ld hb h1 => exact h_past_step (hg := hb) (hc := h1) ..
    | others s _ th sl gn a cl n xw xr gh gt gs gw ge gd ax asl an aa ak al po pr pp pl lx ly lk lw ld hb h1 => exact h_others_step (hg := hb) (hc := h1) ..
    | part s _ th sl gn a cl w n xr gh gt gs gw ge gd ax asl an aa ak al po pr pp pl lx ly lk lw ld hb h1 => exact h_part_step (hg := hb) (hc := h1) ..
    | close s _ th sl gn cl xat xw xr xn gh gt gs gw ge gd ax asl an aa ak al po pr pp pl lx ly lk lw ld hb h1 => exact h_close_step (hg := hb) (hc := h1) ..
    | closed s _ th sl gn cl w xat xr xn gh gt gs gw ge gd ax asl an aa ak al po pr pp pl lx ly lk lw ld hb h1 => exact h_closed_step (hg := hb) (hc := h1) ..
    | nought s _ th sl gn cl xat xw xr xn gh gt gs gw ge gd ax asl an aa ak al po pr pp pl lx ly lk lw ld hb h1 => exact h_nought_step (hg := hb) (hc := h1) ..
    | free s _ th sl gn cl xat xw xr xn gh gt gs gw ge gd ax asl an aa ak al po pr pp pl lx ly lk lw ld hb h1 => exact h_free_step (hg := hb) (hc := h1) ..
    | later s _ th sl gn cl ls llooked xat xw xr xn gh gt gs gw ge gd ax asl an aa ak al po pr pp pl hb h1 => exact h_later_step (hg := hb) (hc := h1) ..
    | done s _ no th sl gn nx xat cl xw xr xn gh gt gs gw ge gd ax asl an aa ak al po pr pp pl lx ly lk lw ld hb => exact h_done_step (hg := hb) ..
    | never s _ hb => exact h_none_step (hg := hb) ..
  obtain ⟨e, y, h1, h2⟩ := hg
  refine ⟨e, y, h1, fun he => ?_, fun he => ?_⟩
  · rcases h2 with ⟨_, hk, hy⟩ | ⟨h, _⟩
    · have hy2 : swM y = (len - (k + 1)).toNat := by cases hy <;> rfl
      exact ⟨⟨_, hy⟩, by omega, rfl⟩
    · rw [he] at h; cases h
  · rcases h2 with ⟨h, _⟩ | ⟨rfl, rfl⟩
    · exact absurd h he
    · rfl
noncomputable def loopS (f : Bool) (T S K G Q : Int) (l c : Nat) (len : Int) (cells : List Int) (rs : List (List Int)) (pt ph steps : Int) (pn pc : Nat) : Sums := withPure (withLoop sumsS2 7 9 (msum 2 (SMf f) (fun x => ∃ k, SI f T S K G Q l c len cells rs pt ph steps pn pc k x) (swOut cells rs))) 11 aliveS
theorem loopS_ok (f : Bool) (T S K G Q : Int) (l c : Nat) (len : Int) (cells : List Int) (rs : List (List Int)) (pt ph steps : Int) (pn pc : Nat) : SumsOk (loopS f T S K G Q l c len cells rs pt ph steps pn pc) := aliveS_ok (loop_msum sumsS2_ok swM bodySw_is (by kernel_rfl) (by cases f <;> decide) (si_step f T S K G Q l c len cells rs pt ph steps pn pc))
end Go.Proofs.YtfccbghmagohaaaGreat.Bound
