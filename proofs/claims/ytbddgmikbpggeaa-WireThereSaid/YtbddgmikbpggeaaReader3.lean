/- The contracts of the closures that read a number and a text. -/
import Derived.Test.YtbddgmikbpggeaaReader2
namespace Go.Proofs.Ytbddgmikbpggeaa
open Go.RowKit
set_option linter.unusedVariables false
set_option linter.unusedSimpArgs false

theorem accB_lt (l : List Nat) : ∀ v r : Nat, v < 18446744073709551616 → accB v l = some r → r < 18446744073709551616 := by
  induction l with
  | nil => intro v r hv h; simp [accB] at h; omega
  | cons b l ih =>
    intro v r hv h
    unfold accB at h
    split at h
    · cases h
    · exact ih _ _ (by omega) h
/-- What a decoding hands back: an error and nothing, or a number and how many bytes. -/
theorem dec_bound (l : List Nat) (most : Nat) : ∃ v k e, decB l most = (v, k, e) ∧ e ≤ 4 ∧ v < 18446744073709551616 ∧ k ≤ 10 ∧ k ≤ l.length ∧ (e ≠ 0 → v = 0 ∧ k = 0) ∧ (e = 0 → v ≤ most ∧ 0 < k) := by
  have h1 := cntB_le 10 l
  have h2 := cntB_len 10 l
  unfold decB
  by_cases c1 : cntB 10 l < 10 ∧ l.length ≤ cntB 10 l
  · rw [if_pos c1]; exact ⟨0, 0, 4, rfl, by omega, by omega, by omega, by omega, by omega, by omega⟩
  · rw [if_neg c1]
    by_cases c2 : cntB 10 l = 10 ∨ (0 < cntB 10 l ∧ l.head? = some 128)
    · rw [if_pos c2]; exact ⟨0, 0, 3, rfl, by omega, by omega, by omega, by omega, by omega, by omega⟩
    · rw [if_neg c2]
      have hk : cntB 10 l < 10 := by
        by_cases h : cntB 10 l = 10
        · exact absurd (.inl h) c2
        · omega
      rcases hacc : accB 0 (l.take (cntB 10 l + 1)) with _ | v
      · exact ⟨0, 0, 3, rfl, by omega, by omega, by omega, by omega, by omega, by omega⟩
      · have hv := accB_lt _ 0 v (by omega) hacc
        dsimp only
        by_cases c3 : most < v
        · rw [if_pos c3]; exact ⟨0, 0, 2, rfl, by omega, by omega, by omega, by omega, by omega, by omega⟩
        · rw [if_neg c3]; exact ⟨v, cntB 10 l + 1, 0, rfl, by omega, hv, by omega, by omega, by omega, by omega⟩

theorem number_tuple {v k e : Nat} (A : Option Addr) (c : Nat) (l : List Nat) (most : Nat) (w : World) (B : Nat) (ha : Bytes w B A l) (hc : l.length ≤ c) (hm : most < 18446744073709551616) (hl : l.length ≤ 1000000) (hd : decB l most = (v, k, e)) :
    Calls Try.prog 58 #[.slice A l.length c, .int .u64 (most : Int)] w fun e' w' => e' = .returned (.tuple #[.int .u64 (v : Int), .int .i64 (k : Int), .int .i64 (e : Int)]) ∧ w = w' := by
  refine (number_calls A c l most w B ha hc hm hl).mono ?_
  rintro e' w' ⟨rfl, rfl⟩
  rw [hd]
  exact ⟨rfl, rfl⟩

set_option maxRecDepth 100000 in
set_option maxHeartbeats 400000 in
theorem var1_calls {v k er : Nat} (A : Option Addr) (c : Nat) (l : List Nat) (most p h : Nat) (w : World) (B : Nat) (ha : Bytes w B A l) (hc : l.length ≤ c) (hm : most < 18446744073709551616) (hl : l.length ≤ 1000000) (hd : decB l most = (v, k, er))
    (hp : Blk w p 23 [.int .u64 (most : Int)]) (hb : Blk w h 23 [.int .u64 0]) :
    Calls Try.prog 57 #[.slice A l.length c, .pointer (some ⟨p, 0, none⟩), .pointer (some ⟨h, 0, none⟩)] w fun e w' =>
      e = .returned (.tuple #[.int .i64 (k : Int), .int .i64 (er : Int)]) ∧ Blk w' h 23 [.int .u64 (v : Int)] ∧ w.grownBy w' (some h) := by
  have h0 : w.cell? ⟨p, 0, none⟩ = some (.int .u64 (most : Int)) := hp.cell 0
  have hf := hb.frozen 0
  have h1 : w.cell? ⟨h, 0, none⟩ = some (.int .u64 0) := hb.cell 0
  have HM := Lib.hid hm
  have HD := Lib.hid hd
  clear hm hd
  go_enter Try.func57, Try.ntmps57
  go_wp2_with fail
  refine (number_tuple A c l most w B ha hc HM.out hl HD.out).mono ?_
  rintro e w' ⟨rfl, rfl⟩
  go_wp2
  go_ret2
  exact ⟨rfl, hb.set_ 0 _, grown_set _ _ _ _⟩

theorem number_max {v k e : Nat} (A : Option Addr) (c : Nat) (l : List Nat) (w : World) (B : Nat) (ha : Bytes w B A l) (hc : l.length ≤ c) (hl : l.length ≤ 1000000) (hd : Hid (decB l 18446744073709551615 = (v, k, e))) (M : Int) (hM : M = 18446744073709551615) :
    Calls Try.prog 58 #[.slice A l.length c, .int .u64 M] w fun e' w' => e' = .returned (.tuple #[.int .u64 (v : Int), .int .i64 (k : Int), .int .i64 (e : Int)]) ∧ w = w' := by
  have h := number_tuple A c l 18446744073709551615 w B ha hc (by omega) hl hd.out
  have e2 : ((18446744073709551615 : Nat) : Int) = M := by omega
  rw [e2] at h
  exact h

/-- What a text's reading answers: how many bytes, the error, the text. -/
def textD (l : List Nat) (most : Int) : Nat × Nat × List Nat :=
  if (decB l 18446744073709551615).2.2 ≠ 0 then (0, (decB l 18446744073709551615).2.2, [])
  else if most.toNat < (decB l 18446744073709551615).1 then (0, 2, [])
  else if l.length - (decB l 18446744073709551615).2.1 < (decB l 18446744073709551615).1 then (0, 4, [])
  else ((decB l 18446744073709551615).2.1 + (decB l 18446744073709551615).1, 0, (l.drop (decB l 18446744073709551615).2.1).take (decB l 18446744073709551615).1)

set_option maxRecDepth 100000 in
set_option maxHeartbeats 800000 in
theorem text1_calls (A : Option Addr) (c : Nat) (l : List Nat) (most : Int) (p h : Nat) (w : World) (B : Nat) (ha : Bytes w B A l) (hc : l.length ≤ c) (hl : l.length ≤ 1000000) (hm : most < 9223372036854775808)
    (hp : Blk w p 3 [.int .i64 most]) (hb : Blk w h 9 [.string ⟨#[]⟩]) :
    Calls Try.prog 59 #[.slice A l.length c, .pointer (some ⟨p, 0, none⟩), .pointer (some ⟨h, 0, none⟩)] w fun e w' =>
      e = .returned (.tuple #[.int .i64 ((textD l most).1 : Int), .int .i64 ((textD l most).2.1 : Int)]) ∧ Blk w' h 9 [.string (bsB (textD l most).2.2)] ∧ w.grownBy w' (some h) := by
  have h0 : w.cell? ⟨p, 0, none⟩ = some (.int .i64 most) := hp.cell 0
  have hf := hb.frozen 0
  have h1 : w.cell? ⟨h, 0, none⟩ = some (.string ⟨#[]⟩) := hb.cell 0
  obtain ⟨v, k, er, hd, her, hv, hk10, hk, hz, hz2⟩ := dec_bound l 18446744073709551615
  have htd : textD l most = if er ≠ 0 then (0, er, []) else if most.toNat < v then (0, 2, []) else if l.length - k < v then (0, 4, []) else (k + v, 0, (l.drop k).take v) := by unfold textD; rw [hd]
  have HD := Lib.hid hd
  have HT := Lib.hid htd
  clear hd htd
  obtain ⟨mt, hmt⟩ : ∃ mt : Nat, most.toNat = mt := ⟨_, rfl⟩
  rw [hmt] at HT
  have hw64 : IntKind.u64.wrap (mt : Int) = (mt : Int) := by rw [IntKind.wrap_u64]; omega
  have hwv : IntKind.u64.wrap (v : Int) = (v : Int) := by rw [IntKind.wrap_u64]; omega
  have hsg : (most = (mt : Int) ∧ 0 < (mt : Int)) ∨ (¬ 0 < most ∧ mt = 0) := by omega
  clear hmt
  rcases hsg with ⟨rfl, hsg⟩ | ⟨hsg, rfl⟩
  · by_cases e0 : er = 0
    · subst e0
      have hk0 := (hz2 rfl).2
      clear hz hz2
      by_cases c1 : mt < v
      · have HR := Lib.hid (show textD l (mt : Int) = (0, 2, []) by rw [HT.out, if_neg (by simp), if_pos c1])
        have hc1 : (((mt : Nat) : Int) < (v : Int)) := by omega
        clear HT
        go_enter Try.func59, Try.ntmps59
        go_wp2_with fail
        refine (number_max A c l w B ha hc hl HD _ (by first | rfl | omega | decide)).mono ?_
        rintro e w' ⟨rfl, rfl⟩
        go_wp2
        go_ret2
        rw [HR.out]
        exact ⟨rfl, hb, grown_refl _ _⟩
      · have hc1 : ¬ (((mt : Nat) : Int) < (v : Int)) := by omega
        by_cases c2 : l.length - k < v
        · have HR := Lib.hid (show textD l (mt : Int) = (0, 4, []) by rw [HT.out, if_neg (by simp), if_neg c1, if_pos c2])
          obtain ⟨d, hd⟩ : ∃ d : Nat, ((l.length : Nat) : Int) - (k : Int) = (d : Int) := ⟨l.length - k, by omega⟩
          have hc2 : (d : Int) < (v : Int) := by omega
          have hd2 : d ≤ 1000000 := by omega
          clear HT c1 c2 her hm hv
          go_enter Try.func59, Try.ntmps59
          go_wp2_with fail
          refine (number_max A c l w B ha hc hl HD _ (by first | rfl | omega | decide)).mono ?_
          rintro e w' ⟨rfl, rfl⟩
          go_wp2
          go_ret2
          rw [HR.out]
          exact ⟨rfl, hb, grown_refl _ _⟩
        · have HR := Lib.hid (show textD l (mt : Int) = (k + v, 0, (l.drop k).take v) by rw [HT.out, if_neg (by simp), if_neg c1, if_neg c2])
          obtain ⟨d, hd⟩ : ∃ d : Nat, ((l.length : Nat) : Int) - (k : Int) = (d : Int) := ⟨l.length - k, by omega⟩
          have hc2 : ¬ (d : Int) < (v : Int) := by omega
          have hd2 : d ≤ 1000000 := by omega
          have hvs : v ≤ 1000000 := by omega
          have hsl := run_cut_lh (P := Try.prog) el_u8 A l.length c k (k + v) v (by omega) (by omega) (by omega)
          have hby : Bytes w B (cutAt A c k 1) ((l.drop k).take v) := (ha.cut k c hk hc).take v
          have hcv := conv_b (P := Try.prog) (dst := 9) Try.underlying22 Try.underlying5 Try.underlying9 hby v (c - k) (by simp; omega)
          have hkv : ((k + v : Nat) : Int) = (k : Int) + (v : Int) := by omega
          rw [hkv] at hsl
          clear HT c1 c2 her hm hv
          generalize (l.drop k).take v = txt at *
          go_enter Try.func59, Try.ntmps59
          go_wp2_with fail
          refine (number_max A c l w B ha hc hl HD _ (by first | rfl | omega | decide)).mono ?_
          rintro e w' ⟨rfl, rfl⟩
          go_wp2
          go_ret2
          rw [HR.out]
          exact ⟨by show _ = Ending.returned (.tuple #[.int .i64 ((k + v : Nat) : Int), .int .i64 0]); rw [hkv]; rfl, hb.set_ 0 _, grown_set _ _ _ _⟩
    · obtain ⟨rfl, rfl⟩ := hz e0
      have HR := Lib.hid (show textD l (mt : Int) = (0, er, []) by rw [HT.out, if_pos e0])
      have e0' : ¬ ((er : Nat) : Int) = 0 := by omega
      clear HT hz hz2 hv hk10 hk her hm
      go_enter Try.func59, Try.ntmps59
      go_wp2_with fail
      refine (number_max A c l w B ha hc hl HD _ (by first | rfl | omega | decide)).mono ?_
      rintro e w' ⟨rfl, rfl⟩
      go_wp2
      go_ret2
      rw [HR.out]
      exact ⟨rfl, hb, grown_refl _ _⟩
  · by_cases e0 : er = 0
    · subst e0
      have hk0 := (hz2 rfl).2
      clear hz hz2
      by_cases c1 : 0 < v
      · have HR := Lib.hid (show textD l most = (0, 2, []) by rw [HT.out, if_neg (by simp), if_pos c1])
        have hc1 : ((0 : Int) < (v : Int)) := by omega
        clear HT
        go_enter Try.func59, Try.ntmps59
        go_wp2_with fail
        refine (number_max A c l w B ha hc hl HD _ (by first | rfl | omega | decide)).mono ?_
        rintro e w' ⟨rfl, rfl⟩
        go_wp2
        go_ret2
        rw [HR.out]
        exact ⟨rfl, hb, grown_refl _ _⟩
      · have hc1 : ¬ ((0 : Int) < (v : Int)) := by omega
        by_cases c2 : l.length - k < v
        · exfalso; omega
        · have HR := Lib.hid (show textD l most = (k + v, 0, (l.drop k).take v) by rw [HT.out, if_neg (by simp), if_neg c1, if_neg c2])
          obtain ⟨d, hd⟩ : ∃ d : Nat, ((l.length : Nat) : Int) - (k : Int) = (d : Int) := ⟨l.length - k, by omega⟩
          have hc2 : ¬ (d : Int) < (v : Int) := by omega
          have hd2 : d ≤ 1000000 := by omega
          have hvs : v ≤ 1000000 := by omega
          have hsl := run_cut_lh (P := Try.prog) el_u8 A l.length c k (k + v) v (by omega) (by omega) (by omega)
          have hby : Bytes w B (cutAt A c k 1) ((l.drop k).take v) := (ha.cut k c hk hc).take v
          have hcv := conv_b (P := Try.prog) (dst := 9) Try.underlying22 Try.underlying5 Try.underlying9 hby v (c - k) (by simp; omega)
          have hkv : ((k + v : Nat) : Int) = (k : Int) + (v : Int) := by omega
          rw [hkv] at hsl
          clear HT c1 c2 her hm hv
          generalize (l.drop k).take v = txt at *
          go_enter Try.func59, Try.ntmps59
          go_wp2_with fail
          refine (number_max A c l w B ha hc hl HD _ (by first | rfl | omega | decide)).mono ?_
          rintro e w' ⟨rfl, rfl⟩
          go_wp2
          go_ret2
          rw [HR.out]
          exact ⟨by show _ = Ending.returned (.tuple #[.int .i64 ((k + v : Nat) : Int), .int .i64 0]); rw [hkv]; rfl, hb.set_ 0 _, grown_set _ _ _ _⟩
    · obtain ⟨rfl, rfl⟩ := hz e0
      have HR := Lib.hid (show textD l most = (0, er, []) by rw [HT.out, if_pos e0])
      have e0' : ¬ ((er : Nat) : Int) = 0 := by omega
      clear HT hz hz2 hv hk10 hk her hm
      go_enter Try.func59, Try.ntmps59
      go_wp2_with fail
      refine (number_max A c l w B ha hc hl HD _ (by first | rfl | omega | decide)).mono ?_
      rintro e w' ⟨rfl, rfl⟩
      go_wp2
      go_ret2
      rw [HR.out]
      exact ⟨rfl, hb, grown_refl _ _⟩
end Go.Proofs.Ytbddgmikbpggeaa
