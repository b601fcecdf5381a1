/- The contracts of wire.Reader's methods. -/
import Derived.Test.YtbddgmikbpggeaaReader
import Derived.Test.YtbddgmikbpggeaaRefOpen
namespace Go.Proofs.Ytbddgmikbpggeaa
open Go.RowKit
set_option linter.unusedVariables false
set_option linter.unusedSimpArgs false

/-- A reader: its bytes, where it stands, its error. -/
structure Rdr (w : World) (g : Nat) (A : Option Addr) (l : List Nat) (c at_ er : Nat) : Prop where
  blk : Blk w g 108 (rcs A l.length c at_ er)
  bytes : Bytes w g A l
  at_le : at_ ≤ l.length
  cap : l.length ≤ c
  few : l.length ≤ 900000
  er_le : er ≤ 5
theorem Bytes.side {w w' : World} {g : Nat} {A : Option Addr} {l : List Nat} (h : Bytes w g A l) (hg : g ≤ w.heap.size) (hs : w.grownBy w' (some g)) : Bytes w' g A l :=
  h.below (Below.grown (Below.refl g w) hs hg fun k hk => by cases hk; exact Nat.le_refl _)
theorem Blk.side {w w' : World} {g : Nat} {k : Nat} {t : TypeId} {cs : List Value} (h : Blk w k t cs) (hs : w.grownBy w' (some g)) (hk : k ≠ g) : Blk w' k t cs :=
  (hs.block k h.lt (fun e => hk (Option.some.inj e))).trans h

theorem grown_set (W : World) (b i : Nat) (v : Value) : W.grownBy (W.setCell ⟨b, i, none⟩ v) (some b) :=
  ⟨rfl, rfl, rfl, by simp [World.setCell], fun k _ hne => Below.heap_setCell _ _ _ _ (fun e => hne (by rw [e]))⟩
theorem grown_refl (w : World) (row : Option Nat) : w.grownBy w row := ⟨rfl, rfl, rfl, Nat.le_refl _, fun _ _ _ => rfl⟩
theorem grown_drew {w w' : World} {row : Option Nat} (h : w.grownBy w' row) : w.grownBy w'.drew row := ⟨h.os, h.tape, h.output, h.size, h.block⟩

/-- What a reader becomes. -/
def nxA (at_ er K E : Nat) : Nat := if er = 0 ∧ E = 0 then at_ + K else at_
def nxE (er E : Nat) : Nat := if er = 0 then E else er

set_option maxHeartbeats 400000 in
theorem read_var (F : Nat) (caps : Array Value) (g h : Nat) (T : TypeId) (V : Value) (A : Option Addr) (c n at_ K E : Nat) (w W : World) (hgw : w.grownBy W (some g)) (hh : w.heap.size ≤ h) (hg : g < w.heap.size)
    (hb : Blk W g 108 (rcs A n c at_ 0)) (hat : at_ ≤ n) (hc : n ≤ c) (hn : n ≤ 1000000) (hK : K ≤ 1000000) (hE : E ≤ 5)
    (HF : ∀ (args : Array Value) (W : World), (callFunc F args).run Try.prog W = .ok (.enter F args) W)
    (H : Calls Try.prog F (#[.slice (cutAt A c at_ 1) (n - at_) (c - at_)] ++ caps) W.drew fun e w' => e = .returned (.tuple #[.int .i64 (K : Int), .int .i64 (E : Int)]) ∧ Blk w' h T [V] ∧ W.grownBy w' (some h)) :
    Calls Try.prog 56 #[.pointer (some ⟨g, 0, none⟩), .func (.func F) #[] caps] W fun e w' => (∃ b, e = .returned (.bool b)) ∧ Blk w' h T [V] ∧ Blk w' g 108 (rcs A n c (nxA at_ 0 K E) (nxE 0 E)) ∧ w.grownBy w' (some g) := by
  have hgh : g ≠ h := by omega
  refine (read_calls F caps (fun k er w1 => k = K ∧ er = E ∧ Blk w1 h T [V] ∧ W.grownBy w1 (some h)) g A c n at_ W hb hat hc hn HF (H.mono ?_) ?_).mono ?_
  · rintro e w' ⟨rfl, h1, h2⟩
    exact ⟨K, E, rfl, rfl, rfl, h1, h2⟩
  · rintro k er w' ⟨rfl, rfl, h1, h2⟩
    exact ⟨hb.side h2 hgh, hK, hE⟩
  · rintro e w' ⟨k, er, w1, ⟨rfl, rfl, h1, h2⟩, h3⟩
    have hb1 := hb.side h2 hgh
    have hw1 : w.grownBy w1 (some g) := ⟨h2.os.trans hgw.os, h2.tape.trans hgw.tape, h2.output.trans hgw.output, Nat.le_trans hgw.size h2.size, fun i hi hne => (h2.block i (Nat.lt_of_lt_of_le hi hgw.size) (fun e => by cases e; omega)).trans (hgw.block i hi hne)⟩
    rcases h3 with ⟨he, rfl, rfl⟩ | ⟨he, rfl, rfl⟩
    · subst he
      refine ⟨⟨_, rfl⟩, h1.far (by exact fun e => hgh e.symm) _, ?_, hw1.trans (grown_set w1 g 1 _)⟩
      exact hb1.set_ 1 _
    · refine ⟨⟨_, rfl⟩, h1.far (by exact fun e => hgh e.symm) _, ?_, hw1.trans (grown_set w1 g 2 _)⟩
      have := hb1.set_ 2 (.int .i64 (er : Int))
      have hA : nxA at_ 0 k er = at_ := by unfold nxA; rw [if_neg (by omega)]
      rw [hA]
      exact this

set_option maxHeartbeats 400000 in
theorem byte1_calls (A : Option Addr) (c : Nat) (l : List Nat) (h : Nat) (w : World) (B : Nat) (ha : Bytes w B A l) (hb : Blk w h 5 [.int .u8 0]) :
    Calls Try.prog 61 #[.slice A l.length c, .pointer (some ⟨h, 0, none⟩)] w fun e w' =>
      e = .returned (.tuple #[.int .i64 ((if l = [] then 0 else 1 : Nat) : Int), .int .i64 ((if l = [] then 4 else 0 : Nat) : Int)]) ∧ Blk w' h 5 [.int .u8 ((l.headD 0 : Nat) : Int)] ∧ w.grownBy w' (some h) := by
  rcases l with _ | ⟨b, l⟩
  · go_enter Try.func61, Try.ntmps61
    go_wp2
    go_ret2
    exact ⟨rfl, hb, grown_refl _ _⟩
  · obtain ⟨ad, rfl, _, hx, hcell⟩ := ha.at_ (k := 0) (by simp)
    rw [add_zero'] at hcell
    have hcell' : w.cell? ad = some (.int .u8 (b : Int)) := hcell
    have hf := hb.frozen 0
    have hc0 : w.cell? ⟨h, 0, none⟩ = some (.int .u8 0) := hb.cell 0
    have hlen : ¬ (((b :: l).length : Nat) : Int) = 0 := by simp; omega
    generalize hq : (b :: l).length = q at *
    have hq' : 0 < q := by omega
    clear hcell
    go_enter Try.func61, Try.ntmps61
    go_wp2
    go_ret2
    exact ⟨rfl, hb.set_ 0 _, grown_set _ _ _ _⟩

theorem or8 (v x : Nat) (hv : v < 16777216) (hx : x < 256) : bits .or .u32 ((v : Int) * 256) (x : Int) = ((256 * v + x : Nat) : Int) := by
  rw [show (v : Int) * 256 = ((v * 256 : Nat) : Int) by omega, u32_or_nat _ _ (by omega) (by omega), nat_join 8 (v * 256) x (by omega) (by omega)]; omega

set_option maxRecDepth 100000 in
set_option maxHeartbeats 400000 in
theorem word1_short (A : Option Addr) (c : Nat) (l : List Nat) (h : Nat) (w : World) (hl : l.length < 4) (hb : Blk w h 24 [.int .u32 0]) :
    Calls Try.prog 60 #[.slice A l.length c, .pointer (some ⟨h, 0, none⟩)] w fun e w' =>
      e = .returned (.tuple #[.int .i64 0, .int .i64 4]) ∧ Blk w' h 24 [.int .u32 0] ∧ w.grownBy w' (some h) := by
  go_enter Try.func60, Try.ntmps60
  go_wp2
  go_ret2
  exact ⟨rfl, hb, grown_refl _ _⟩

set_option maxRecDepth 100000 in
set_option maxHeartbeats 400000 in
theorem word1_calls (A : Option Addr) (c : Nat) (l : List Nat) (h : Nat) (w : World) (B : Nat) (hB : B ≤ h) (ha : Bytes w B A l) (hc : l.length ≤ c) (hl : 4 ≤ l.length) (hb : Blk w h 24 [.int .u32 0]) :
    Calls Try.prog 60 #[.slice A l.length c, .pointer (some ⟨h, 0, none⟩)] w fun e w' =>
      e = .returned (.tuple #[.int .i64 4, .int .i64 0]) ∧ Blk w' h 24 [.int .u32 (ofB (l.take 4) : Int)] ∧ w.grownBy w' (some h) := by
  go_enter Try.func60, Try.ntmps60
  go_wp2_with fail
  go_loopw [13] (fun v13 wr => ∃ k : Nat, v13 = .int .i64 (k : Int) ∧ k ≤ 4 ∧ Blk wr h 24 [.int .u32 (ofB (l.take k) : Int)] ∧ w.grownBy wr (some h)) (fun v13 _ => 4 - (intOf v13).toNat)
  case atStart => exact ⟨0, rfl, by omega, by simpa [ofB] using hb, grown_refl _ _⟩
  case round =>
    obtain ⟨k, rfl, hk, hbr, hgr⟩ := hrel
    by_cases hk4 : k < 4
    · obtain ⟨ad, rfl, hbd, hx, hcell⟩ := ha.at_ (k := k) (by omega)
      have hne : ad.block ≠ h := by omega
      have hcr : wr.cell? (ad.add k) = some (.int .u8 (l[k]'(by omega) : Int)) := by
        refine hgr.cell hcell ?_
        rw [add_block]
        exact fun e => hne (Option.some.inj e)
      have hst : ofB (l.take (k + 1)) = 256 * ofB (l.take k) + l[k]'(by omega) := by
        rw [List.take_succ_eq_append_getElem (by omega), ofB_snoc]
      have hlt : ofB (l.take k) < 16777216 := by
        have h1 := ofB_lt (l.take k) fun b hb => ha.2 b (List.mem_of_mem_take hb)
        have h2 : (l.take k).length ≤ 3 := by rw [List.length_take]; omega
        have h3 : 256 ^ (l.take k).length ≤ 256 ^ 3 := Nat.pow_le_pow_right (by omega) h2
        omega
      have HST := Lib.hid hst
      clear hst hcell
      generalize l[k]'(by omega) = x at *
      have hor := or8 (ofB (l.take k)) x hlt hx
      generalize ofB (l.take k) = v at *
      have hv2 : wr.cell? ⟨h, 0, none⟩ = some (.int .u32 (v : Int)) := hbr.cell 0
      have hfr := hbr.frozen 0
      go_wp2
      go_roundw
      case rel => exact ⟨k + 1, by go_num, by omega, by rw [HST.out]; exact hbr.set_ 0 _, hgr.trans (grown_set _ _ _ _)⟩
      case measure => simp [intOf]; omega
    · obtain rfl : k = 4 := by omega
      go_wp2
      go_ret2
      exact ⟨rfl, hbr, hgr⟩
end Go.Proofs.Ytbddgmikbpggeaa
