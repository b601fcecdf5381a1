/- The contracts of wire.Reader. -/
import Derived.Test.YtbddgmikbpggeaaNumber
import Derived.Test.YtbddgmikbpggeaaReadNil
import Derived.Shelf.Abstract
import Derived.Deep.RegionWith
import Derived.RegionTactic
import Derived.BigRegion
namespace Go.Proofs.Ytbddgmikbpggeaa
open Go.RowKit
set_option linter.unusedVariables false
set_option linter.unusedSimpArgs false

/-- A reader's block. -/
def rcs (A : Option Addr) (n c at_ e : Nat) : List Value := [.slice A n c, .int .i64 (at_ : Int), .int .i64 (e : Int)]

set_option maxRecDepth 100000 in
set_option maxHeartbeats 1000000 in
theorem read_calls (F : Nat) (caps : Array Value) (R : Nat → Nat → World → Prop) (g : Nat) (A : Option Addr) (c n at_ : Nat) (w : World) (hb : Blk w g 108 (rcs A n c at_ 0)) (hat : at_ ≤ n) (hc : n ≤ c) (hn : n ≤ 1000000)
    (HF : ∀ (args : Array Value) (W : World), (callFunc F args).run Try.prog W = .ok (.enter F args) W)
    (H : Calls Try.prog F (#[.slice (cutAt A c at_ 1) (n - at_) (c - at_)] ++ caps) w.drew fun e w' => ∃ k er : Nat, e = .returned (.tuple #[.int .i64 (k : Int), .int .i64 (er : Int)]) ∧ R k er w')
    (HR : ∀ k er w', R k er w' → Blk w' g 108 (rcs A n c at_ 0) ∧ k ≤ 1000000 ∧ er ≤ 5) :
    Calls Try.prog 56 #[.pointer (some ⟨g, 0, none⟩), .func (.func F) #[] caps] w fun e w' => ∃ (k er : Nat) (w1 : World), R k er w1 ∧
      ((er = 0 ∧ e = .returned (.bool true) ∧ w' = w1.setCell ⟨g, 1, none⟩ (.int .i64 ((at_ + k : Nat) : Int))) ∨ (er ≠ 0 ∧ e = .returned (.bool false) ∧ w' = w1.setCell ⟨g, 2, none⟩ (.int .i64 (er : Int)))) := by
  have h0 : w.cell? ⟨g, 0, none⟩ = some (.slice A n c) := hb.cell 0
  have h1 : w.cell? ⟨g, 1, none⟩ = some (.int .i64 (at_ : Int)) := hb.cell 1
  have h2 : w.cell? ⟨g, 2, none⟩ = some (.int .i64 0) := hb.cell 2
  have hd0 : w.drew.cell? ⟨g, 0, none⟩ = some (.slice A n c) := h0
  have hd1 : w.drew.cell? ⟨g, 1, none⟩ = some (.int .i64 (at_ : Int)) := h1
  have hsl := run_cut_l (P := Try.prog) (el_u8) A n c at_ (n - at_) hat rfl
  go_enter Try.func56, Try.ntmps56
  go_wp2_with fail
  go_region_with (first | (go_at_fn F; refine H.mono ?_; rintro e w1 ⟨k, er, rfl, hR⟩; obtain ⟨hb1, hk, her⟩ := HR k er w1 hR))
  all_goals
    have f1 := hb1.frozen 1
    have f2 := hb1.frozen 2
    have g1 : w1.cell? ⟨g, 1, none⟩ = some (.int .i64 (at_ : Int)) := hb1.cell 1
    have g2 : w1.cell? ⟨g, 2, none⟩ = some (.int .i64 0) := hb1.cell 2
    clear h0 h1 h2 hd0 hd1 hsl
    by_cases h0 : er = 0
    · subst h0
      go_wp2
      go_ret
      exact ⟨k, 0, w1, hR, .inl ⟨rfl, rfl, by rw [show ((at_ + k : Nat) : Int) = (at_ : Int) + (k : Int) by omega]⟩⟩
    · have h0' : ¬ ((er : Nat) : Int) = 0 := by omega
      go_wp2
      go_ret
      exact ⟨k, er, w1, hR, .inr ⟨h0, rfl, rfl⟩⟩

set_option maxHeartbeats 400000 in
/-- With an error nothing is read. -/
theorem read_stopped (fv : Value) (g : Nat) (A : Option Addr) (c n at_ er : Nat) (w : World) (hb : Blk w g 108 (rcs A n c at_ er)) (he : er ≠ 0) :
    Calls Try.prog 56 #[.pointer (some ⟨g, 0, none⟩), fv] w fun e w' => e = .returned (.bool false) ∧ w = w' := by
  have h2 : w.cell? ⟨g, 2, none⟩ = some (.int .i64 (er : Int)) := hb.cell 2
  have he' : ¬ ((er : Nat) : Int) = 0 := by omega
  go_enter Try.func56, Try.ntmps56
  go_wp2
  go_ret
  exact ⟨rfl, rfl⟩
end Go.Proofs.Ytbddgmikbpggeaa
