/- The contract of wire.number. -/
import Derived.Test.YtbddgmikbpggeaaRef2
import Derived.Test.YtbddgmikbpggeaaDec
namespace Go.Proofs.Ytbddgmikbpggeaa
open Go.RowKit
set_option linter.unusedVariables false
set_option linter.unusedSimpArgs false

/-- What a decoding hands back. -/
def decV (d : Nat × Nat × Nat) : Value := .tuple #[.int .u64 (d.1 : Int), .int .i64 (d.2.1 : Int), .int .i64 (d.2.2 : Int)]

set_option maxRecDepth 100000 in
set_option maxHeartbeats 1000000 in
theorem number_calls (A : Option Addr) (c : Nat) (l : List Nat) (most : Nat) (w : World) (B : Nat) (ha : Bytes w B A l) (hc : l.length ≤ c) (hm : most < 18446744073709551616) (hl : l.length ≤ 1000000) :
    Calls Try.prog 58 #[.slice A l.length c, .int .u64 (most : Int)] w fun e w' => e = .returned (decV (decB l most)) ∧ w = w' := by
  have HM := Lib.hid hm
  clear hm
  go_enter Try.func58, Try.ntmps58
  go_wp2_with fail
  go_step3
  go_wp2_with fail
  go_step3
  go_wp2_with fail
  go_loop [7] (fun v7 => ∃ n : Nat, v7 = .int .i64 (n : Int) ∧ n ≤ 10 ∧ Hid (cntB 10 l = n + cntB (10 - n) (l.drop n))) (fun v7 => 10 - (intOf v7).toNat)
  case atStart => exact ⟨0, rfl, by omega, by show _ = _; simp⟩
  case round =>
    obtain ⟨n, rfl, hn, hq⟩ := hrel
    by_cases h10 : n < 10
    · by_cases hlen : n < l.length
      · obtain ⟨ad, rfl, _, hx, hcell⟩ := ha.at_ hlen
        by_cases hb : 128 ≤ l[n]
        · have hnext := Lib.hid (cntB_next l n hq.out h10 hlen hb)
          have hb2 : ¬ ((l[n] : Nat) : Int) < 128 := by omega
          generalize l[n] = x at *
          go_wp2
          go_round
          case rel => exact ⟨n + 1, by go_num, by omega, hnext⟩
          case measure => simp [intOf]; omega
        · have hstop := cntB_stop l n hq.out h10 hlen hb
          have hb2 : ((l[n] : Nat) : Int) < 128 := by omega
          have h0l : 0 < l.length := by omega
          obtain ⟨_, hh, _, hx0, hcell0⟩ := ha.at_ h0l
          obtain rfl := Option.some.inj hh
          clear hh
          have hcell0' : w.cell? ad = some (.int .u8 (l[0] : Nat)) := by simpa [Addr.add] using hcell0
          clear hcell0
          by_cases hz : 0 < n ∧ l[0] = 128
          · have hfin : decV (decB l most) = decV (0, 0, 3) := by rw [dec_zero l most (by omega) (by omega) hz.2]
            have HF := Lib.hid hfin
            clear hfin hstop hq
            obtain ⟨hz1, hz2⟩ := hz
            rw [hz2] at hcell0'
            generalize l[n] = x at *
            go_wp2
            go_ret3
            exact ⟨by rw [HF.out]; rfl, rfl⟩
          · have hdec := dec_acc l most (by omega) (by omega) (by by_cases h : n = 0; (· left; omega); (· right; intro h'; exact hz ⟨by omega, h'⟩))
            rw [hstop] at hdec
            have HD := Lib.hid hdec
            have hz3 : n = 0 ∨ (0 < n ∧ ¬ ((l[0] : Nat) : Int) = 128) := by omega
            clear hdec hstop hq hz
            have hn0 : n = 0 → ((l[0] : Nat) : Int) < 128 := by intro h; subst h; exact hb2
            generalize l[n] = x at *
            generalize l[0] = x0 at *
            rcases hz3 with rfl | ⟨hz1, hz2⟩
            · have hz0 := hn0 rfl
              have hnil : ¬ l = [] := by rintro rfl; simp at h0l
              clear hn0 hlen h10 hn
              go_wp2_with fail
              go_loop [8, 43] (fun v8 v43 => ∃ j v : Nat, v8 = .int .u64 (v : Int) ∧ v43 = .int .i64 (j : Int) ∧ j ≤ 1 ∧ v < 18446744073709551616 ∧ Hid (accB 0 (l.take (1)) = accB v ((l.take (1)).drop j))) (fun v8 v43 => 1 - (intOf v43).toNat)
              case atStart => exact ⟨0, 0, rfl, rfl, by omega, by omega, by show _ = _; simp⟩
              case round =>
                obtain ⟨j, v, rfl, rfl, hj, hv, hacc⟩ := hrel
                by_cases hjn : j < 1
                · obtain ⟨_, hh, _, hxj, hcellj⟩ := ha.at_ (show j < l.length by omega)
                  obtain rfl := Option.some.inj hh
                  clear hh
                  have hdr : (l.take (1)).drop j = l[j] :: (l.take (1)).drop (j + 1) := by rw [List.drop_eq_getElem_cons (by simp; omega)]; simp
                  by_cases hbig : 144115188075855871 < v
                  · have HR := Lib.hid (show decB l most = (0, 0, 3) by rw [HD.out, hacc.out, hdr, accB, if_pos hbig])
                    clear HD hacc hdr
                    generalize l[j] = y at *
                    go_wp2
                    go_ret3
                    exact ⟨by rw [HR.out]; rfl, rfl⟩
                  · have HN := Lib.hid (show accB 0 (l.take (1)) = accB (v * 128 + l[j] % 128) ((l.take (1)).drop (j + 1)) by rw [hacc.out, hdr, accB, if_neg hbig])
                    clear hacc hdr
                    generalize l[j] = y at *
                    have h7 := or7 v y (by omega)
                    have h127 := and127b y hxj
                    have hvb : v * 128 + y % 128 < 18446744073709551616 := by omega
                    go_wp2
                    go_round
                    case rel => exact ⟨j + 1, v * 128 + y % 128, by go_num, by go_num, by omega, hvb, HN⟩
                    case measure => simp [intOf]; omega
                · obtain rfl : j = 1 := by omega
                  have hv2 : accB 0 (l.take (1)) = some v := by rw [hacc.out, List.drop_eq_nil_of_le (by simp; omega), accB]
                  by_cases hmv : most < v
                  · have HR := Lib.hid (show decB l most = (0, 0, 2) by rw [HD.out, hv2]; simp [hmv])
                    clear HD hacc hv2
                    go_wp2
                    go_ret3
                    exact ⟨by rw [HR.out]; rfl, rfl⟩
                  · have HR := Lib.hid (show decB l most = (v, 1, 0) by rw [HD.out, hv2]; simp [hmv])
                    clear HD hacc hv2
                    go_wp2
                    go_ret3
                    exact ⟨by rw [HR.out]; rfl, rfl⟩
            · have hq1 : ((n : Int) == 10) = false := by simp; omega
              have hq2 : ((x0 : Int) == 128) = false := by simp; omega
              go_wp2_with fail
              go_loop [8, 43] (fun v8 v43 => ∃ j v : Nat, v8 = .int .u64 (v : Int) ∧ v43 = .int .i64 (j : Int) ∧ j ≤ n + 1 ∧ v < 18446744073709551616 ∧ Hid (accB 0 (l.take (n + 1)) = accB v ((l.take (n + 1)).drop j))) (fun v8 v43 => n + 1 - (intOf v43).toNat)
              case atStart => exact ⟨0, 0, rfl, rfl, by omega, by omega, by show _ = _; simp⟩
              case round =>
                obtain ⟨j, v, rfl, rfl, hj, hv, hacc⟩ := hrel
                by_cases hjn : j < n + 1
                · obtain ⟨_, hh, _, hxj, hcellj⟩ := ha.at_ (show j < l.length by omega)
                  obtain rfl := Option.some.inj hh
                  clear hh
                  have hdr : (l.take (n + 1)).drop j = l[j] :: (l.take (n + 1)).drop (j + 1) := by rw [List.drop_eq_getElem_cons (by simp; omega)]; simp
                  by_cases hbig : 144115188075855871 < v
                  · have HR := Lib.hid (show decB l most = (0, 0, 3) by rw [HD.out, hacc.out, hdr, accB, if_pos hbig])
                    clear HD hacc hdr
                    generalize l[j] = y at *
                    go_wp2
                    go_ret3
                    exact ⟨by rw [HR.out]; rfl, rfl⟩
                  · have HN := Lib.hid (show accB 0 (l.take (n + 1)) = accB (v * 128 + l[j] % 128) ((l.take (n + 1)).drop (j + 1)) by rw [hacc.out, hdr, accB, if_neg hbig])
                    clear hacc hdr
                    generalize l[j] = y at *
                    have h7 := or7 v y (by omega)
                    have h127 := and127b y hxj
                    have hvb : v * 128 + y % 128 < 18446744073709551616 := by omega
                    go_wp2
                    go_round
                    case rel => exact ⟨j + 1, v * 128 + y % 128, by go_num, by go_num, by omega, hvb, HN⟩
                    case measure => simp [intOf]; omega
                · obtain rfl : j = n + 1 := by omega
                  have hv2 : accB 0 (l.take (n + 1)) = some v := by rw [hacc.out, List.drop_eq_nil_of_le (by simp; omega), accB]
                  by_cases hmv : most < v
                  · have HR := Lib.hid (show decB l most = (0, 0, 2) by rw [HD.out, hv2]; simp [hmv])
                    clear HD hacc hv2
                    go_wp2
                    go_ret3
                    exact ⟨by rw [HR.out]; rfl, rfl⟩
                  · have HR := Lib.hid (show decB l most = (v, n + 1, 0) by rw [HD.out, hv2]; simp [hmv])
                    clear HD hacc hv2
                    go_wp2
                    go_ret3
                    exact ⟨by rw [HR.out]; rfl, rfl⟩
      · have hend := cntB_end l n hq.out (by omega)
        have hfin : decV (decB l most) = decV (0, 0, 4) := by rw [dec_short l most (by omega) (by omega)]
        have HF := Lib.hid hfin
        clear hfin hend
        go_wp2
        go_ret3
        exact ⟨by rw [HF.out]; rfl, rfl⟩
    · obtain rfl : n = 10 := by omega
      have hten := cntB_ten l hq.out
      have hfin : decV (decB l most) = decV (0, 0, 3) := by rw [dec_ten l most hten]
      have HF := Lib.hid hfin
      clear hfin hten
      go_wp2
      go_ret3
      exact ⟨by rw [HF.out]; rfl, rfl⟩
end Go.Proofs.Ytbddgmikbpggeaa
