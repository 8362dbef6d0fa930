/- The walk over MemSteps. -/
import Derived.Test.YtbocdopjikkomaaG4
import Derived.Test.YtbocdopjikkomaaK
import Derived.Deep.RegionWith
import Derived.OpenShut
namespace Go.Proofs.Ytbocdopjikkomaa
open Go.RowKit

def aheads (key : ByteArray) (seq : Int) (ns : List Nd) : Nat := ns.countP fun n => aheadB n.k n.s key seq

theorem aheads_pre {ns : List Nd} (h : Wf ns) (key : ByteArray) (seq : Int) : aheads key seq ns = (preOf key seq ns).length := by
  have hpp := pre_post key seq ns
  unfold aheads
  conv => lhs; rw [← hpp]
  rw [List.countP_append, List.countP_eq_length.2 (fun n hn => pre_ahead hn), List.countP_eq_zero.2 (fun n hn => by rw [post_behind h.order hn]; simp)]
  omega

theorem aheads_take {key : ByteArray} {seq : Int} {ns : List Nd} {n : Nat} {m : Nd} (hm : ns[n]? = some m) :
    aheads key seq (ns.take (n + 1)) = aheads key seq (ns.take n) + if aheadB m.k m.s key seq = true then 1 else 0 := by
  have hlt := (List.getElem?_eq_some_iff.1 hm).1
  rw [List.take_succ_eq_append_getElem hlt, (List.getElem?_eq_some_iff.1 hm).2]
  unfold aheads
  rw [List.countP_append, List.countP_cons, List.countP_nil]
  omega

def CountRel (key : ByteArray) (seq : Int) (ns : List Nd) (w0 : World) (B : Nat) (g : Nat) (c j : Value) (wr : World) : Prop :=
  ∃ n : Nat, j = .int .i64 n ∧ n ≤ ns.length ∧ g = ns.length - n ∧ c = .int .i64 (aheads key seq (ns.take n) : Nat) ∧ Below B w0 wr

set_option maxHeartbeats 1000000 in
theorem count_calls (tb pk ps : Nat) (ns : List Nd) (key : ByteArray) (seq : Int) (w : World) (h : Tab tb ns w) (hw : Wf ns) (hl : ns.length ≤ 200)
    (hk : w.cell? ⟨pk, 0, none⟩ = some (.string key)) (hs : w.cell? ⟨ps, 0, none⟩ = some (.int .u64 seq)) (hpk : pk < w.heap.size) (hps : ps < w.heap.size) :
    Calls Try.prog 28 #[.pointer (some ⟨tb, 0, none⟩), .pointer (some ⟨pk, 0, none⟩), .pointer (some ⟨ps, 0, none⟩)] w fun e w' => e = .returned (.int .i64 (preOf key seq ns).length) ∧ Below w.heap.size w w' := by
  have Hpre := Lib.hid (aheads_pre hw key seq)
  go_enter Try.func28, Try.ntmps28
  go_wp2_with fail
  refine (all_calls _ _ _ h hw).mono ?_
  rintro e w1 ⟨va, rfl, hown, hb1⟩
  have hs1 := hb1.size
  obtain ⟨ea, ca, rfl⟩ := own_slice hown
  have hE := EntsAt.own hown
  have HE := Lib.hid hE
  have HB1 := Lib.hid hb1
  have hk1 : w1.cell? ⟨pk, 0, none⟩ = some (.string key) := by rw [hb1.cell (by exact hpk)]; exact hk
  have hs1' : w1.cell? ⟨ps, 0, none⟩ = some (.int .u64 seq) := by rw [hb1.cell (by exact hps)]; exact hs
  clear h hw hown hE hb1 hk hs
  go_wp2_with fail
  go_loopg [5, 11] ns.length (fun g c j wr => CountRel key seq ns w1 w1.heap.size g c j wr)
  case atStart => exact ⟨0, rfl, by omega, by omega, rfl, Below.refl _ _⟩
  case round =>
    obtain ⟨n, rfl, hn, rfl, rfl, hb⟩ := hrel
    have hsr := hb.size
    by_cases hlt : n < ns.length
    · obtain ⟨m, hm⟩ : ∃ m, ns[n]? = some m := ⟨ns[n]'hlt, by simp⟩
      obtain ⟨b, off, rfl, hblt, hat⟩ := HE.out (by rintro rfl; simp at hm)
      obtain ⟨e0, e1, e2, e3⟩ := (hat n m hm).below hb hblt
      have hkr : wr.cell? ⟨pk, 0, none⟩ = some (.string key) := by rw [hb.cell (by simp; omega)]; exact hk1
      have hsr' : wr.cell? ⟨ps, 0, none⟩ = some (.int .u64 seq) := by rw [hb.cell (by simp; omega)]; exact hs1'
      have Htk := Lib.hid (aheads_take (key := key) (seq := seq) hm)
      have hcl : aheads key seq (ns.take n) ≤ 200 := by
        have := List.countP_le_length (p := fun n => aheadB n.k n.s key seq) (l := ns.take n)
        rw [List.length_take] at this
        unfold aheads
        omega
      have HB := Lib.hid hb
      have hlr : b < wr.heap.size := by omega
      have hl1 : pk < wr.heap.size := by omega
      have hl2 : ps < wr.heap.size := by omega
      generalize hc : aheads key seq (ns.take n) = c at hcl
      have Hc := Lib.hid hc
      clear hat hm hk1 hs1' hb hc
      go_wp2_with fail
      refine (refAhead_calls _ _ _ _ _).mono ?_
      rintro e w2 ⟨rfl, rfl⟩
      by_cases ha : aheadB m.k m.s key seq = true
      · rw [ha]
        have Ha := Lib.hid ha
        clear ha
        go_wp2_with fail
        go_roundg (ns.length - (n + 1))
        case measure => omega
        case rel => exact ⟨n + 1, by go_num, by omega, rfl, by rw [Htk.out, if_pos Ha.out, Hc.out]; go_num, HB.out.alloc (by omega) _⟩
      · have ha' : aheadB m.k m.s key seq = false := by simpa using ha
        rw [ha']
        have Ha := Lib.hid ha
        clear ha ha'
        go_wp2_with fail
        go_roundg (ns.length - (n + 1))
        case measure => omega
        case rel => exact ⟨n + 1, by go_num, by omega, rfl, by rw [Htk.out, if_neg Ha.out, Hc.out]; go_num, HB.out.alloc (by omega) _⟩
    · have e : aheads key seq (ns.take n) = (preOf key seq ns).length := by rw [List.take_of_length_le (by omega), Hpre.out]
      rw [e]
      have HB := Lib.hid hb
      clear e hb
      go_wp2_with fail
      go_ret
      exact ⟨rfl, HB1.out.trans (HB.out.mono hs1)⟩

def StepRel (w0 : World) (t u len H : Nat) (g : Nat) (i : Value) (wr : World) : Prop :=
  ∃ n : Nat, i = .int .i64 n ∧ n ≤ len ∧ n ≤ 200 ∧ g = 200 - n ∧ ∃ ns us, ns.length ≤ n ∧ us.length ≤ n ∧ TwoIn w0 t u ns us wr ∧ ∀ m ∈ us, m.h = H

def StepAfter (w0 : World) (t u H : Nat) (wr : World) : Prop :=
  ∃ ns us, ns.length ≤ 200 ∧ us.length ≤ 200 ∧ TwoIn w0 t u ns us wr ∧ ∀ m ∈ us, m.h = H

set_option maxRecDepth 100000 in
set_option maxHeartbeats 4000000 in
theorem steps_law_calls (ao : Option Addr) (len cap : Nat) (xs : List Pt) (key : ByteArray) (seq height : Int) (w : World) (hx : PutsAt w ao len xs) (hh : (Lit.int .u8 height).wf = true) :
    Calls Try.prog 8 #[.slice ao len cap, .string key, .int .u64 seq, .int .u8 height] w fun e w' => e = .returned (.bool true) ∧ Below w.heap.size w w' := by
  obtain ⟨W0, hW0⟩ : ∃ W0, W0 = (w.alloc (.cells #[.string key] 9)).alloc (.cells #[.int .u64 seq] 23) := ⟨_, rfl⟩
  have hB0 : Below w.heap.size w W0 := by rw [hW0]; exact ((Below.refl _ _).alloc (Nat.le_refl _) _).alloc (by simp) _
  have hk0 : W0.cell? ⟨w.heap.size, 0, none⟩ = some (.string key) := by rw [hW0]; exact ((Blk.new w 9 #[.string key]).alloc _).cell 0
  have hs0 : W0.cell? ⟨w.heap.size + 1, 0, none⟩ = some (.int .u64 seq) := by
    rw [hW0]; simp
  have hz0 : w.heap.size + 2 ≤ W0.heap.size := by rw [hW0]; simp
  have hhb := bounds_u8 hh
  have hh0 := hhb.1
  have hh1 := hhb.2
  clear hh hhb
  by_cases hk : 300 < (key.size : Int)
  · go_enter Try.func8, Try.ntmps8
    go_wp2_with fail
    rw [← hW0]
    have HW := Lib.hid hW0
    clear hW0
    refine (awake_calls _).mono ?_
    rintro e w1 ⟨rfl, hb1⟩
    have hk1 : w1.cell? ⟨w.heap.size, 0, none⟩ = some (.string key) := by rw [hb1.cell (by simp; omega)]; exact hk0
    clear hk0 hs0
    go_wp2_with fail
    go_ret
    exact ⟨rfl, hB0.trans (hb1.mono (by omega))⟩
  · go_enter Try.func8, Try.ntmps8
    go_wp2_with fail
    rw [← hW0]
    have HW := Lib.hid hW0
    clear hW0
    refine (awake_calls _).mono ?_
    rintro e w1 ⟨rfl, hb1⟩
    have hs1 := hb1.size
    have hk1 : w1.cell? ⟨w.heap.size, 0, none⟩ = some (.string key) := by rw [hb1.cell (by simp; omega)]; exact hk0
    have Hk0 := Lib.hid hk0
    have Hs0 := Lib.hid hs0
    clear hk0 hs0
    go_wp2_with fail
    refine (new_calls _).mono ?_
    rintro e w2 ⟨rfl, hT2, hb2⟩
    have hs2 := hb2.size
    have hlt2 := hT2.lt
    go_wp2_with fail
    refine (new_calls _).mono ?_
    rintro e w3 ⟨rfl, hT3, hb3⟩
    have hs3 := hb3.size
    have hin : TwoIn W0 w1.heap.size w2.heap.size [] [] w3 :=
      ⟨⟨hT2.below hb3, wf_nil, by simp, (hb1.trans (hb2.mono (by omega))).trans (hb3.mono (by omega))⟩, ⟨hT3, wf_nil, by simp, (hb1.trans (hb2.mono (by omega))).trans (hb3.mono (by omega))⟩, by omega, by simp⟩
    clear hT2 hb2 hb1 hT3 hb3 hk1
    obtain ⟨H, hH⟩ : ∃ H : Nat, (H : Int) = 1 + height % 8 := ⟨(1 + height % 8).toNat, by omega⟩
    have hH1 : 1 ≤ H := by omega
    have hH8 : H ≤ 8 := by omega
    have HH0 := Lib.hid hH
    clear hH
    go_upto_block 0 with fail
    go_cut [11] (fun _ w' => StepAfter W0 w1.heap.size w2.heap.size H w')
    case first =>
      go_wp2_with fail
      go_loopg [11] 200 (fun g i wr => StepRel W0 w1.heap.size w2.heap.size len H g i wr)
      case atStart => exact ⟨0, rfl, by omega, by omega, rfl, [], [], by simp, by simp, hin, by simp⟩
      case round =>
        obtain ⟨n, rfl, hn1, hn2, rfl, ns, us, hns, hus, hT, hHu⟩ := hrel
        have HT := Lib.hid hT
        have HHu := Lib.hid hHu
        clear hin hT hHu
        by_cases hlen : n < len
        · by_cases h200 : n < 200
          · obtain ⟨b, off, rfl, hblt, hat⟩ := hx.at_ (by omega)
            obtain ⟨x, hx1⟩ : ∃ x, xs[n]? = some x := ⟨xs[n]'(by rw [hx.count]; exact hlen), by simp⟩
            have hp0 := (hat n x hx1).below hB0 hblt
            have hbw := HT.out.fst.2.2.2
            have hsw := hbw.size
            have hp1 := hp0.below hbw (by omega)
            have Hp0 := Lib.hid hp0
            have Hp1 := Lib.hid hp1
            obtain ⟨q0, q1, q2, q3, q4⟩ := hp1
            clear hx hat hx1 hp0 hbw
            go_wp2_with fail
            refine (large_calls _ _ _ _ _).mono ?_
            rintro e w4 ⟨rfl, hb4⟩
            have hs4 := hb4.size
            have hbw4 := HT.out.fst.2.2.2.trans (hb4.mono HT.out.fst.2.2.2.size)
            by_cases hla : largeB x.k x.v = true
            · have Hla := Lib.hid hla
              clear hla
              rw [Hla.out]
              have HB := Lib.hid hbw4
              have HB0 := Lib.hid hB0
              clear hbw4 hB0
              go_wp2_with fail
              go_ret
              exact ⟨rfl, HB0.out.trans (HB.out.mono (by omega))⟩
            · have Hla := Lib.hid (show largeB x.k x.v = false by simpa using hla)
              clear hla
              rw [Hla.out]
              have hp4 := Hp1.out.below hb4 (by omega)
              obtain ⟨r0, r1, r2, r3, r4⟩ := hp4
              have HT4 := Lib.hid (HT.out.below hb4)
              clear hbw4 hb4 q0 q1 q2 q3 q4
              go_wp2_with fail
              go_still_tail 11, (by kernel_rfl)
              go_wp2_with fail
              have hT4 := HT4.out.below (Below.refl _ _).drew
              refine (put_wf _ _ _ _ _ _ _ _ hT4.fst.1 hT4.fst.2.1 (by omega)).mono ?_
              rintro e wa ⟨rfl, ba, hba, hTa, hWa, hOa⟩
              have hTwo := hT4.put (by omega) hba hTa hWa hOa
              obtain ⟨s0, s1, s2, s3, s4⟩ := Hp0.out.below hTwo.fst.2.2.2 (by omega)
              have HTa := Lib.hid hTwo
              clear hTa hWa hOa hTwo hba hT4 r0 r1 r2 r3 r4
              go_wp2_with fail
              rw [← HH0.out]
              have hT5 := HTa.out
              refine (put_wf _ _ _ _ _ _ _ _ hT5.snd.1 hT5.snd.2.1 (by omega)).mono ?_
              rintro e wb ⟨rfl, bb, hbb, hTb, hWb, hOb⟩
              have hTwoB := (hT5.swap.put (by omega) hbb hTb hWb hOb).swap
              have HTb := Lib.hid hTwoB
              clear hTb hWb hOb hTwoB hbb hT5 s0 s1 s2 s3 s4
              go_wp2_with fail
              go_roundg (200 - (n + 1))
              case measure => omega
              case rel => exact ⟨n + 1, by go_num, by omega, by omega, rfl, _, _, Nat.le_trans putL_len (by omega), Nat.le_trans putL_len (by omega), HTb.out, putL_height rfl HHu.out⟩
          · go_wp2_with fail
            go_meet
            case rel => exact ⟨ns, us, by omega, by omega, HT.out, HHu.out⟩
        · go_wp2_with fail
          go_meet
          case rel => exact ⟨ns, us, by omega, by omega, HT.out, HHu.out⟩
    case rest =>
      obtain ⟨ns, us, hns, hus, hT, hHu⟩ := hcut
      have hsc := hT.fst.2.2.2.size
      clear hx hin
      have hk4 : wc.cell? ⟨w.heap.size, 0, none⟩ = some (.string key) := by rw [hT.fst.2.2.2.cell (by simp; omega)]; exact Hk0.out
      have hs4 : wc.cell? ⟨w.heap.size + 1, 0, none⟩ = some (.int .u64 seq) := by rw [hT.fst.2.2.2.cell (by simp; omega)]; exact Hs0.out
      have hV1 : visL 0 (preOf key seq ns) ≤ (preOf key seq ns).length := visL_le 0 _
      have hV2 : (preOf key seq ns).length = 0 ∨ 1 ≤ visL 0 (preOf key seq ns) := by
        by_cases hp : preOf key seq ns = []
        · exact .inl (by rw [hp]; rfl)
        · exact .inr (visL_pos (fun n hn => (hT.fst.2.1.low n (mem_pre hn)).1) hp)
      have hV3 : visL 0 (preOf key seq us) = (preOf key seq us).length := visL_flat (by omega) (fun m hm => hHu m (mem_pre hm))
      have HV3 := Lib.hid hV3
      obtain ⟨V1, hv1⟩ : ∃ V1, visL 0 (preOf key seq ns) = V1 := ⟨_, rfl⟩
      obtain ⟨C1, hc1⟩ : ∃ C1, (preOf key seq ns).length = C1 := ⟨_, rfl⟩
      rw [hv1, hc1] at hV1
      rw [hv1, hc1] at hV2
      have HV1 := Lib.hid hv1
      have HC1 := Lib.hid hc1
      have HV2 := Lib.hid hV2
      have hV1i : (V1 : Int) ≤ (C1 : Int) := by omega
      clear hV3 hv1 hc1 hV2 hHu
      go_wp2_with fail
      refine (steps_wf _ _ _ _ _ hT.fst.1 hT.fst.2.1).mono ?_
      rintro e w4 ⟨rfl, hb4⟩
      rw [HV1.out]
      have hT4 := hT.below hb4
      have hz4 := hb4.size
      have hk5 : w4.cell? ⟨w.heap.size, 0, none⟩ = some (.string key) := by rw [hT4.fst.2.2.2.cell (by simp; omega)]; exact Hk0.out
      have hs5 : w4.cell? ⟨w.heap.size + 1, 0, none⟩ = some (.int .u64 seq) := by rw [hT4.fst.2.2.2.cell (by simp; omega)]; exact Hs0.out
      clear hT hb4 hk4 hs4
      go_wp2_with fail
      refine (count_calls _ _ _ _ _ _ _ hT4.fst.1 hT4.fst.2.1 hns hk5 hs5 (by omega) (by omega)).mono ?_
      rintro e w5 ⟨rfl, hb5⟩
      rw [HC1.out]
      have hT5 := hT4.below hb5
      have hz5 := hb5.size
      have hk6 : w5.cell? ⟨w.heap.size, 0, none⟩ = some (.string key) := by rw [hT5.fst.2.2.2.cell (by simp; omega)]; exact Hk0.out
      have hs6 : w5.cell? ⟨w.heap.size + 1, 0, none⟩ = some (.int .u64 seq) := by rw [hT5.fst.2.2.2.cell (by simp; omega)]; exact Hs0.out
      clear hT4 hb5 hk5 hs5
      go_wp2_with fail
      refine (steps_wf _ _ _ _ _ hT5.fst.1 hT5.fst.2.1).mono ?_
      rintro e w6 ⟨rfl, hb6⟩
      rw [HV1.out]
      have hT6 := hT5.below hb6
      have hz6 := hb6.size
      have hk7 : w6.cell? ⟨w.heap.size, 0, none⟩ = some (.string key) := by rw [hT6.fst.2.2.2.cell (by simp; omega)]; exact Hk0.out
      have hs7 : w6.cell? ⟨w.heap.size + 1, 0, none⟩ = some (.int .u64 seq) := by rw [hT6.fst.2.2.2.cell (by simp; omega)]; exact Hs0.out
      clear hT5 hb6 hk6 hs6
      go_wp2_with fail
      refine (count_calls _ _ _ _ _ _ _ hT6.fst.1 hT6.fst.2.1 hns hk7 hs7 (by omega) (by omega)).mono ?_
      rintro e w7 ⟨rfl, hb7⟩
      rw [HC1.out]
      have hT7 := hT6.below hb7
      have hz7 := hb7.size
      have hk8 : w7.cell? ⟨w.heap.size, 0, none⟩ = some (.string key) := by rw [hT7.fst.2.2.2.cell (by simp; omega)]; exact Hk0.out
      have hs8 : w7.cell? ⟨w.heap.size + 1, 0, none⟩ = some (.int .u64 seq) := by rw [hT7.fst.2.2.2.cell (by simp; omega)]; exact Hs0.out
      clear hT6 hb7 hk7 hs7
      have hcase : (1 < C1 ∧ 1 ≤ V1) ∨ (¬ 1 < C1 ∧ C1 ≤ V1) := by have := HV2.out; omega
      rcases hcase with ⟨h1, h2⟩ | ⟨h1, h2⟩
      all_goals
        go_wp2_with fail
        refine (steps_wf _ _ _ _ _ hT7.snd.1 hT7.snd.2.1).mono ?_
        rintro e w8 ⟨rfl, hb8⟩
        rw [HV3.out]
        have hT8 := hT7.below hb8
        have hz8 := hb8.size
        have hk9 : w8.cell? ⟨w.heap.size, 0, none⟩ = some (.string key) := by rw [hT8.fst.2.2.2.cell (by simp; omega)]; exact Hk0.out
        have hs9 : w8.cell? ⟨w.heap.size + 1, 0, none⟩ = some (.int .u64 seq) := by rw [hT8.fst.2.2.2.cell (by simp; omega)]; exact Hs0.out
        clear hT7 hb8 hk8 hs8
        go_wp2_with fail
        refine (count_calls _ _ _ _ _ _ _ hT8.snd.1 hT8.snd.2.1 hus hk9 hs9 (by omega) (by omega)).mono ?_
        rintro e w9 ⟨rfl, hb9⟩
        have hT9 := hT8.below hb9
        go_wp2_with fail
        go_ret
        exact ⟨by simp, hB0.trans (hT9.fst.2.2.2.mono (by omega))⟩

end Go.Proofs.Ytbocdopjikkomaa
