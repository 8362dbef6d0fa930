/- The walk over MemFrom. -/
import Derived.Test.YtbocdopjikkomaaG
import Derived.Test.YtbocdopjikkomaaS
import Derived.Deep.RegionWith
namespace Go.Proofs.Ytbocdopjikkomaa
open Go.RowKit

set_option maxRecDepth 100000 in
set_option maxHeartbeats 4000000 in
theorem from_law_calls (ao : Option Addr) (len cap : Nat) (xs : List Pt) (key : ByteArray) (n : Int) (w : World) (hx : PutsAt w ao len xs) (hn : (Lit.int .i64 n).wf = true) :
    Calls Try.prog 7 #[.slice ao len cap, .string key, .int .i64 n] w fun e w' => e = .returned (.bool true) ∧ Below w.heap.size w w' := by
  by_cases hk : 300 < (key.size : Int)
  · go_enter Try.func7, Try.ntmps7
    go_wp2_with fail
    refine (awake_calls _).mono ?_
    rintro e w1 ⟨rfl, hb1⟩
    go_wp2_with fail
    go_ret
    exact ⟨rfl, hb1⟩
  · go_enter Try.func7, Try.ntmps7
    go_wp2_with fail
    refine (awake_calls _).mono ?_
    rintro e w1 ⟨rfl, hb1⟩
    have hs1 := hb1.size
    go_wp2_with fail
    refine (new_calls _).mono ?_
    rintro e w2 ⟨rfl, hT2, hb2⟩
    have hs2 := hb2.size
    have hin : TabIn w w1.heap.size [] w2 := ⟨hT2, wf_nil, by simp, hb1.trans (hb2.mono (by omega))⟩
    clear hT2 hb2 hb1
    go_upto_block 0 with fail
    go_cut [8] (fun _ w' => After w w1.heap.size w')
    case first =>
      go_wp2_with fail
      go_loopg [8] 200 (fun g i wr => NewRel w w1.heap.size len g i wr)
      case atStart => exact ⟨0, rfl, by omega, by omega, rfl, [], by simp, hin⟩
      case round =>
        obtain ⟨n, rfl, hn1, hn2, rfl, ns, hns, hT⟩ := hrel
        have HT := Lib.hid hT
        clear hin
        by_cases hlen : n < len
        · by_cases h200 : n < 200
          · obtain ⟨b, off, rfl, hblt, hat⟩ := hx.at_ (by omega)
            obtain ⟨x, hx1⟩ : ∃ x, xs[n]? = some x := ⟨xs[n]'(by rw [hx.count]; exact hlen), by simp⟩
            have hp0 := hat n x hx1
            have hbw := HT.out.2.2.2
            have hsw := hbw.size
            have hp1 := hp0.below hbw hblt
            have Hp1 := Lib.hid hp1
            obtain ⟨q0, q1, q2, q3, q4⟩ := hp1
            clear hx hat hx1 hp0 hbw
            go_wp2_with fail
            refine (large_calls _ _ _ _ _).mono ?_
            rintro e w3 ⟨rfl, hb3⟩
            have hs3 := hb3.size
            have hbw3 := HT.out.2.2.2.trans (hb3.mono HT.out.2.2.2.size)
            by_cases hla : largeB x.k x.v = true
            · have Hla := Lib.hid hla
              clear hla
              rw [Hla.out]
              have HB := Lib.hid hbw3
              clear hbw3
              go_wp2_with fail
              go_ret
              exact ⟨rfl, HB.out⟩
            · have Hla := Lib.hid (show largeB x.k x.v = false by simpa using hla)
              clear hla
              rw [Hla.out]
              obtain ⟨r0, r1, r2, r3, r4⟩ := Hp1.out.below hb3 (by omega)
              have HB := Lib.hid hbw3
              have HB3 := Lib.hid hb3
              clear hbw3 hb3 q0 q1 q2 q3 q4
              go_wp2_with fail
              go_still_tail 11, (by kernel_rfl)
              go_wp2_with fail
              have hb3 := HB3.out
              have hin3 := HT.out
              refine (put_wf _ _ _ _ _ _ _ _ (hin3.1.below hb3.drew) hin3.2.1 (by omega)).mono ?_
              rintro e w4 ⟨rfl, b4, hb4, hT4, hW4, hO4⟩
              have hstep := NewRel.step (len := len) hin3 hb3.drew hs1 hns hlen h200 hb4 hT4 hW4 hO4
              have Hstep := Lib.hid hstep
              clear hstep hT4 hW4 hO4 hin3 hb3 r0 r1 r2 r3 r4
              go_wp2_with fail
              go_roundg (200 - (n + 1))
              case measure => omega
              case rel => exact Hstep.out
          · go_wp2_with fail
            go_meet
            case rel => exact ⟨ns, by omega, HT.out⟩
        · go_wp2_with fail
          go_meet
          case rel => exact ⟨ns, by omega, HT.out⟩
    case rest =>
      obtain ⟨ns, hns, hTc, hWc, hmin, hbc⟩ := hcut
      have hsc := hbc.size
      clear hx hin
      go_wp2_with fail
      refine (all_calls _ _ _ hTc hWc).mono ?_
      rintro e w3 ⟨va, rfl, hown, hb3⟩
      have hs3 := hb3.size
      obtain ⟨ga, ca, rfl⟩ := own_slice hown
      have hE := EntsAt.own hown
      have hkl : (preOf key 18446744073709551615 ns).length ≤ ns.length := pre_le key _ ns
      have hcap : ns.length ≤ ca := own_cap hown
      have Hown := Lib.hid hown
      have HE := Lib.hid hE
      have HT := Lib.hid (hTc.below hb3)
      have HW := Lib.hid hWc
      have Hb := Lib.hid (hbc.trans (hb3.mono hsc))
      clear hown hE hTc hWc hb3 hbc hmin
      generalize hkk : (preOf key 18446744073709551615 ns).length = kk at hkl
      have Hkk := Lib.hid hkk
      clear hkk
      go_upto_block 2 with fail
      go_cut [10] (fun j wr => j = .int .i64 kk ∧ wr = w3)
      case first =>
        go_wp2_with fail
        go_loopg [10] kk (fun g j wr => ∃ k : Nat, j = .int .i64 k ∧ k ≤ kk ∧ g = kk - k ∧ wr = w3)
        case atStart => exact ⟨0, rfl, by omega, by omega, rfl⟩
        case round =>
          obtain ⟨k, rfl, hk1, rfl, rfl⟩ := hrel
          by_cases hlt : k < ns.length
          · obtain ⟨m, hm⟩ : ∃ m, ns[k]? = some m := ⟨ns[k]'hlt, by simp⟩
            obtain ⟨b, off, rfl, _, hat⟩ := HE.out (by rintro rfl; simp at hm)
            obtain ⟨e0, _, _, _⟩ := hat k m hm
            have hless := less_pre HW.out key hm
            rw [Hkk.out] at hless
            have hlti : (k : Int) < (ns.length : Int) := by omega
            by_cases hkk : k < kk
            · have hl : Op.bytesLess m.k.toList key.toList = true := by rw [hless]; simpa using hkk
              clear hless hat hm
              go_wp2_with fail
              go_roundg (kk - (k + 1))
              case measure => omega
              case rel => exact ⟨k + 1, by go_num, by omega, rfl, rfl⟩
            · have hl : Op.bytesLess m.k.toList key.toList = false := by rw [hless]; simpa using hkk
              clear hless hat hm
              go_wp2_with fail
              go_meet
              case rel => exact ⟨by congr 2; omega, rfl⟩
          · go_wp2_with fail
            go_meet
            case rel => exact ⟨by congr 2; omega, rfl⟩
      case rest =>
        obtain ⟨rfl, rfl⟩ := hcut
        go_upto_region 16 with fail
        go_cut [11] (fun v wr => RestRel ns kk v wc wr)
        case first =>
          by_cases hck : ca = kk
          · go_wp2_with fail
            go_meet
            case rel => exact ⟨ga, 0, rfl, by omega, fun hne => absurd (List.drop_eq_nil_of_le (by omega)) hne, rfl⟩
          · go_wp2_with fail
            go_meet
            case rel => exact ⟨_, _, rfl, by omega, HE.out.drop kk, rfl⟩
        case rest =>
          obtain ⟨X, cc, rfl, hcc, hX, rfl⟩ := hcut
          generalize hR : ns.length - kk = R at hcc
          have HR := Lib.hid hR
          have HX := Lib.hid hX
          clear hR hX
          have hXT : ∀ w5, Below wc.drew.heap.size wc.drew w5 → EntsAt w5 X ((postOf key 18446744073709551615 ns).take n.toNat) := by
            intro w5 hb5
            rw [post_drop, Hkk.out]
            exact (HX.out.below ((Below.refl _ _).drew.trans (hb5.mono (by simp)))).take _
          have HXT := Lib.hid hXT
          have hlen : ((postOf key 18446744073709551615 ns).take n.toNat).length = min n.toNat R := by
            rw [post_drop, Hkk.out, List.length_take, List.length_drop, HR.out]
          have Hlen := Lib.hid hlen
          have hR1 : R ≤ 200 := by have := HR.out; omega
          have hRi : 0 ≤ (R : Int) := by omega
          have hsz : wc.drew.heap.size = wc.heap.size := by simp
          have Hsz := Lib.hid hsz
          clear hXT hlen hsz
          by_cases hn0 : n < 0
          · have hR0 : ¬ (R : Int) < 0 := by omega
            have HL := Lib.hid (show ((postOf key 18446744073709551615 ns).take n.toNat).length = 0 by rw [Hlen.out]; omega)
            go_wp2_with fail
            go_region_with (first | (go_at_call 25; refine (from_wf _ ns _ _ _ (HT.out.below (Below.refl _ _).drew) HW.out).mono ?_; rintro e w5 ⟨vf, rfl, hownf, hb5⟩) | (go_at_call 23; refine (same_own hownf (HXT.out _ hb5) HL.out (by omega)).mono ?_; rintro e w6 ⟨rfl, hb6⟩))
            all_goals (go_wp2_with fail; go_ret; refine ⟨rfl, ?_⟩)
            all_goals exact Hb.out.trans (((Below.refl _ _).drew.trans (hb5.mono (by rw [Hsz.out]; omega))).trans (hb6.mono (by have := hb5.size; rw [Hsz.out] at this; omega)))
          · obtain ⟨N, rfl⟩ := Int.eq_ofNat_of_zero_le (by omega : 0 ≤ n)
            by_cases hNR : N ≤ R
            · have HL := Lib.hid (show ((postOf key 18446744073709551615 ns).take ((N : Nat) : Int).toNat).length = N by rw [Hlen.out]; omega)
              have hN1 : ¬ (R : Int) < (N : Int) := by omega
              have hN2 : N ≤ cc := by omega
              go_wp2_with fail
              go_region_with (first | (go_at_call 25; refine (from_wf _ ns _ _ _ (HT.out.below (Below.refl _ _).drew) HW.out).mono ?_; rintro e w5 ⟨vf, rfl, hownf, hb5⟩) | (go_at_call 23; refine (same_own hownf (HXT.out _ hb5) HL.out (by omega)).mono ?_; rintro e w6 ⟨rfl, hb6⟩))
              all_goals (go_wp2_with fail; go_ret; refine ⟨rfl, ?_⟩)
              all_goals exact Hb.out.trans (((Below.refl _ _).drew.trans (hb5.mono (by rw [Hsz.out]; omega))).trans (hb6.mono (by have := hb5.size; rw [Hsz.out] at this; omega)))
            · have HL := Lib.hid (show ((postOf key 18446744073709551615 ns).take ((N : Nat) : Int).toNat).length = R by rw [Hlen.out]; omega)
              have hN1 : (R : Int) < (N : Int) := by omega
              go_wp2_with fail
              go_region_with (first | (go_at_call 25; refine (from_wf _ ns _ _ _ (HT.out.below (Below.refl _ _).drew) HW.out).mono ?_; rintro e w5 ⟨vf, rfl, hownf, hb5⟩) | (go_at_call 23; refine (same_own hownf (HXT.out _ hb5) HL.out (by omega)).mono ?_; rintro e w6 ⟨rfl, hb6⟩))
              all_goals (go_wp2_with fail; go_ret; refine ⟨rfl, ?_⟩)
              all_goals exact Hb.out.trans (((Below.refl _ _).drew.trans (hb5.mono (by rw [Hsz.out]; omega))).trans (hb6.mono (by have := hb5.size; rw [Hsz.out] at this; omega)))

end Go.Proofs.Ytbocdopjikkomaa
