/- The walks of layer 13 over a book: caps and costs. -/
import Derived.Test.YtkcambhojpafkaaDoorProg
import Derived.Test.YtkcambhojpafkaaDoorShelf
import Derived.Test.YtkcambhojpafkaaDoorS8
set_option linter.unusedSimpArgs false
set_option linter.unusedVariables false
namespace Go.Proofs.YtkcambhojpafkaaDoor
open Go Go.RowKit

theorem VZ_in {n k : Nat} (hn : n ≤ 16) (hk : k ≤ 32) : VZ n k = (V n k : Int) := by
  rw [VZ, if_pos ⟨by omega, by omega, by omega, by omega⟩]; simp

set_option maxHeartbeats 1000000 in
theorem costCap_small (b m n : Nat) (w : World) (hb : BookAt w b m) (h1 : 1 ≤ n) (h8 : n ≤ 8) : Calls Tryd.prog 25 #[.pointer (some ⟨b, 0, none⟩), .int .i64 n] w (RetB m (.int .i64 (cap n)) w) := by
  have HB := Lib.hid hb; clear hb
  have ht : (decide ((1 : Int) ≤ n) && decide ((n : Int) ≤ 16)) = true := by simp; omega
  have hcl := cap_le n
  go_enter Tryd.func25, Tryd.ntmps25
  go_wp2_with (go_at_call 59; (with_reducible refine (there_any _ _).mono ?_); rintro e w' ⟨rfl, hw'⟩; obtain rfl := hw'.symm)
  go_loopw [5] (fun i wr => ∃ k : Nat, k ≤ cap n ∧ i = .int .i64 k ∧ XB m w wr) (fun i _ => 33 - (intOf i).toNat)
  case atStart => exact ⟨0, by omega, rfl, HB.out.self⟩
  case round =>
    obtain ⟨k, hk, rfl, hx⟩ := hrel
    have HX := Lib.hid hx; clear hx
    by_cases h32 : k < 32
    · have hc := cap_small (k := k + 1) h1 h8 (by omega)
      have hv := VZ_in (n := n) (k := k + 1) (by omega) (by omega)
      have HV := Lib.hid hv; clear hv
      go_wp2_with fail
      refine (bookV_any b m _ _ _ (HX.out.book HB.out)).mono ?_
      rintro e w2 ⟨rfl, hb2⟩
      have hv2 : VZ n ((k : Int) + 1) = (V n (k + 1) : Int) := HV.out
      rw [hv2]
      have HB2 := Lib.hid hb2; clear hb2
      clear hv2
      by_cases hg : k + 1 ≤ cap n
      · have hV := hc.2 hg
        clear hc
        go_wp2
        go_roundw
        case rel => exact ⟨k + 1, hg, by go_num, HX.out.trans HB2.out⟩
        case measure => simp [intOf]; omega
      · have hV : ¬ V n (k + 1) ≤ 1048576 := fun h => hg (hc.1 h)
        clear hc
        have hkc : k = cap n := by omega
        have HK := Lib.hid hkc; clear hkc
        go_wp2
        go_ret
        exact ⟨ri (by rw [HK.out]), HX.out.trans HB2.out⟩
    · have hkc : k = cap n := by omega
      have HK := Lib.hid hkc; clear hkc
      go_wp2
      go_ret
      exact ⟨ri (by rw [HK.out]), HX.out⟩

theorem costCap_any (b m : Nat) (n : Int) (w : World) (hb : BookAt w b m) : Calls Tryd.prog 25 #[.pointer (some ⟨b, 0, none⟩), .int .i64 n] w (RetB m (.int .i64 (capZ n)) w) := by
  by_cases h : 1 ≤ n ∧ n ≤ 16
  · obtain ⟨n, rfl⟩ := Int.eq_ofNat_of_zero_le (show 0 ≤ n by omega)
    have hv : capZ n = (cap n : Int) := by rw [capZ_in h.1 h.2]; simp
    by_cases h8 : n ≤ 8
    · rw [hv]; exact costCap_small b m n w hb (by omega) h8
    · have hg := cap_great (n := n) (by omega) (by omega)
      have HV := Lib.hid hv; clear hv
      have HG := Lib.hid hg; clear hg
      have HB := Lib.hid hb; clear hb
      have ht : (decide ((1 : Int) ≤ n) && decide ((n : Int) ≤ 16)) = true := by simp; omega
      obtain ⟨h1, h2⟩ := h
      have c1 := cap_le (n / 2)
      have c2 := cap_le (n - n / 2)
      go_enter Tryd.func25, Tryd.ntmps25
      go_wp2_with (go_at_call 59; (with_reducible refine (there_any _ _).mono ?_); rintro e w' ⟨rfl, hw'⟩; obtain rfl := hw'.symm)
      have e1 : ((n : Int) / 2) = ((n / 2 : Nat) : Int) := by omega
      have e2 : ((n : Int) - (n : Int) / 2) = ((n - n / 2 : Nat) : Int) := by omega
      rw [e1]
      refine (costCap_small b m (n / 2) _ HB.out (by omega) (by omega)).mono ?_
      rintro e w2 ⟨rfl, hb2⟩
      have HB2 := Lib.hid hb2; clear hb2
      clear e1 e2
      go_wp2_with fail
      have e2 : ((n : Int) - (n : Int) / 2) = ((n - n / 2 : Nat) : Int) := by omega
      rw [e2]
      refine (costCap_small b m (n - n / 2) _ (HB2.out.book HB.out) (by omega) (by omega)).mono ?_
      rintro e w3 ⟨rfl, hb3⟩
      have HB3 := Lib.hid hb3; clear hb3
      clear e2
      go_wp2
      all_goals
        go_ret
        exact ⟨ri (by rw [HV.out, HG.out]; omega), HB2.out.trans HB3.out⟩
  · have hv := capZ_out h
    have HV := Lib.hid hv; clear hv
    have HB := Lib.hid hb; clear hb
    have ht : (decide (1 ≤ n) && decide (n ≤ 16)) = false := by simp; omega
    go_enter Tryd.func25, Tryd.ntmps25
    go_wp2_with (go_at_call 59; (with_reducible refine (there_any _ _).mono ?_); rintro e w' ⟨rfl, hw'⟩; obtain rfl := hw'.symm)
    go_ret
    exact ⟨ri HV.out.symm, HB.out.self⟩
set_option maxHeartbeats 1000000 in
theorem bitsOf_small (b m n k : Nat) (w : World) (hb : BookAt w b m) (h1 : 1 ≤ n) (h8 : n ≤ 8) (hk : k ≤ cap n) :
    Calls Tryd.prog 58 #[.pointer (some ⟨b, 0, none⟩), .int .i64 n, .int .i64 k] w (RetB m (.int .i64 (bit n k)) w) := by
  have HB := Lib.hid hb; clear hb
  have hcl := cap_le n
  by_cases h0 : k = 0
  · subst h0
    have hv := bit_zero n
    have HV := Lib.hid hv; clear hv
    change Calls Tryd.prog 58 #[.pointer (some ⟨b, 0, none⟩), .int .i64 n, .int .i64 0] w _
    go_enter Tryd.func58, Tryd.ntmps58
    go_wp2
    go_ret
    exact ⟨ri (by rw [HV.out]; rfl), HB.out.self⟩
  · have hv := bit_small h1 h8 (by omega) hk
    have hp := V_pos (n := n) (k := k) h1 (by omega) (by omega)
    have hl := @V_lt n k
    have hbl := bit_le n k
    rw [hv] at hbl
    have HV := Lib.hid hv; clear hv
    have hvz := VZ_in (n := n) (k := k) (by omega) (by omega)
    have HZ := Lib.hid hvz; clear hvz
    have hm : ((V n k : Int) - 1).toNat = V n k - 1 := by omega
    have hk0 : ((k : Int) == 0) = false := by simp; omega
    go_enter Tryd.func58, Tryd.ntmps58
    go_wp2_with fail
    refine (bookV_any b m _ _ _ HB.out).mono ?_
    rintro e w2 ⟨rfl, hb2⟩
    rw [HZ.out]
    have HB2 := Lib.hid hb2; clear hb2
    go_wp2_with (go_at_call 89; (with_reducible refine (Tryd.bits_Len64 _ _ (by omega) (by omega)).mono ?_); rintro e w' ⟨rfl, hw'⟩; obtain rfl := hw'.symm)
    go_ret
    exact ⟨ri (by rw [HV.out]; rfl), HB2.out⟩

set_option maxHeartbeats 1000000 in
theorem bitsOf_any (b m n k : Nat) (w : World) (hb : BookAt w b m) (h1 : 1 ≤ n) (h16 : n ≤ 16) (hk : k ≤ cap n) :
    Calls Tryd.prog 58 #[.pointer (some ⟨b, 0, none⟩), .int .i64 n, .int .i64 k] w (RetB m (.int .i64 (bit n k)) w) := by
  by_cases h8 : n ≤ 8
  · exact bitsOf_small b m n k w hb h1 h8 hk
  · have HB := Lib.hid hb; clear hb
    have hcl := cap_le n
    by_cases h0 : k = 0
    · subst h0
      have hv := bit_zero n
      have HV := Lib.hid hv; clear hv
      change Calls Tryd.prog 58 #[.pointer (some ⟨b, 0, none⟩), .int .i64 n, .int .i64 0] w _
      go_enter Tryd.func58, Tryd.ntmps58
      go_wp2
      go_ret
      exact ⟨ri (by rw [HV.out]; rfl), HB.out.self⟩
    · have hv := bit_great (n := n) (k := k) (by omega) h16 (by omega) hk
      have hg := cap_great (n := n) (by omega) h16
      have hk1 : k ≤ cap (n / 2) := by omega
      have hk2 : k ≤ cap (n - n / 2) := by omega
      have HG := Lib.hid hg; clear hg
      have hbl := most_le n k (k + 1)
      have HV := Lib.hid hv; clear hv
      have hk0 : ((k : Int) == 0) = false := by simp; omega
      go_enter Tryd.func58, Tryd.ntmps58
      go_wp2_with fail
      go_loopw [7, 24] (fun mo i wr => ∃ a : Nat, a ≤ k + 1 ∧ i = .int .i64 a ∧ mo = .int .i64 (most n k a) ∧ XB m w wr) (fun _ i _ => k + 1 - (intOf i).toNat)
      case atStart => exact ⟨0, by omega, rfl, rfl, HB.out.self⟩
      case round =>
        obtain ⟨a, hak, rfl, rfl, hx⟩ := hrel
        have HX := Lib.hid hx; clear hx
        by_cases hlt : a < k + 1
        · have b1 := bit_le (n / 2) a
          have b2 := bit_le (n - n / 2) (k - a)
          have b3 := most_le n k a
          go_wp2_with fail
          have e1 : ((n : Int) / 2) = ((n / 2 : Nat) : Int) := by omega
          rw [e1]
          refine (bitsOf_small b m (n / 2) a _ (HX.out.book HB.out) (by omega) (by omega) (by omega)).mono ?_
          rintro e w2 ⟨rfl, hb2⟩
          have HB2 := Lib.hid hb2; clear hb2
          clear e1
          go_wp2_with fail
          have e2 : ((n : Int) - (n : Int) / 2) = ((n - n / 2 : Nat) : Int) := by omega
          have e3 : ((k : Int) - (a : Int)) = ((k - a : Nat) : Int) := by omega
          rw [e2, e3]
          refine (bitsOf_small b m (n - n / 2) (k - a) _ (HB2.out.book (HX.out.book HB.out)) (by omega) (by omega) (by omega)).mono ?_
          rintro e w3 ⟨rfl, hb3⟩
          have HB3 := Lib.hid hb3; clear hb3
          clear e2 e3
          go_wp2
          all_goals
            go_roundw
            case rel => exact ⟨a + 1, by omega, by go_num, by simp only [most]; go_num, HX.out.trans (HB2.out.trans HB3.out)⟩
            case measure => simp [intOf]; omega
        · obtain rfl : a = k + 1 := by omega
          have hl := Lib.bitLen_le k 6 (by omega) (by omega)
          have hk3 : ((k : Int).toNat) = k := by omega
          go_wp2_with (go_at_call 90; (with_reducible refine (Tryd.bits_Len _ _ (by omega) (by omega)).mono ?_); rintro e w' ⟨rfl, hw'⟩; obtain rfl := hw'.symm)
          go_ret
          exact ⟨ri (by rw [HV.out]; omega), HX.out⟩

theorem costBits_any (b m : Nat) (n k : Int) (w : World) (hb : BookAt w b m) : Calls Tryd.prog 23 #[.pointer (some ⟨b, 0, none⟩), .int .i64 n, .int .i64 k] w (RetB m (.int .i64 (bitZ n k)) w) := by
  have HB := Lib.hid hb; clear hb
  by_cases hk : k < 0
  · have hv : bitZ n k = -1 := by simp [bitZ, hk]
    have HV := Lib.hid hv; clear hv
    go_enter Tryd.func23, Tryd.ntmps23
    go_wp2
    go_ret
    exact ⟨ri HV.out.symm, HB.out.self⟩
  · by_cases hc : capZ n < k
    · have hv : bitZ n k = -1 := by simp [bitZ, hc]
      have HV := Lib.hid hv; clear hv
      go_enter Tryd.func23, Tryd.ntmps23
      go_wp2_with (go_at_call 25; (with_reducible refine (costCap_any b m _ _ HB.out).mono ?_); rintro e w2 ⟨rfl, hb2⟩)
      go_ret
      exact ⟨ri HV.out.symm, hb2⟩
    · have hv : bitZ n k = (bit n.toNat k.toNat : Int) := by simp [bitZ, hk, hc]
      have hn : 1 ≤ n ∧ n ≤ 16 := by
        apply Classical.byContradiction
        intro h
        rw [capZ_out h] at hc
        omega
      have hce := capZ_in hn.1 hn.2
      obtain ⟨n, rfl⟩ := Int.eq_ofNat_of_zero_le (show 0 ≤ n by omega)
      obtain ⟨k, rfl⟩ := Int.eq_ofNat_of_zero_le (show 0 ≤ k by omega)
      have hkc : k ≤ cap n := by rw [hce] at hc; simp at hc; exact hc
      have n1 : 1 ≤ n := by omega
      have n2 : n ≤ 16 := by omega
      have HV := Lib.hid hv; clear hv
      clear hce hn
      go_enter Tryd.func23, Tryd.ntmps23
      go_wp2_with (go_at_call 25; (with_reducible refine (costCap_any b m _ _ HB.out).mono ?_); rintro e w2 ⟨rfl, hb2⟩)
      refine (bitsOf_any b m n k _ (hb2.book HB.out) n1 n2 hkc).mono ?_
      rintro e w3 ⟨rfl, hb3⟩
      go_wp2
      go_ret
      exact ⟨ri (by rw [HV.out]; simp), hb2.trans hb3⟩
end Go.Proofs.YtkcambhojpafkaaDoor
