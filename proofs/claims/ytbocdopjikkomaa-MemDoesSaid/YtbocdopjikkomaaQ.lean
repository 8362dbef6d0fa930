/- The walk over MemHeights. -/
import Derived.Test.YtbocdopjikkomaaG4
import Derived.Deep.RegionWith
namespace Go.Proofs.Ytbocdopjikkomaa
open Go.RowKit

/-- The height that is put. -/
def lim (h : Int) : Int := if h < 1 then 1 else if 8 < h then 8 else h

theorem lim_in (h : Int) : 1 ≤ lim h ∧ lim h ≤ 8 := by unfold lim; split <;> (try split) <;> omega

def AlikeRel (w0 : World) (t u len : Nat) (g : Nat) (i : Value) (wr : World) : Prop :=
  ∃ n : Nat, i = .int .i64 n ∧ n ≤ len ∧ n ≤ 200 ∧ g = 200 - n ∧ ∃ ns us, ns.length ≤ n ∧ TwoIn w0 t u ns us wr ∧ ents ns = ents us ∧ ∀ m ∈ us, m.h = 1

def AlikeAfter (w0 : World) (t u : Nat) (wr : World) : Prop :=
  ∃ ns us, ns.length ≤ 200 ∧ TwoIn w0 t u ns us wr ∧ ents ns = ents us ∧ ∀ m ∈ us, m.h = 1

set_option maxRecDepth 100000 in
set_option maxHeartbeats 4000000 in
theorem heights_calls (ao : Option Addr) (len cap : Nat) (xs : List Pt) (key : ByteArray) (seq : Int) (w : World) (hx : PutsAt w ao len xs) :
    Calls Try.prog 5 #[.slice ao len cap, .string key, .int .u64 seq] w fun e w' => e = .returned (.bool true) ∧ Below w.heap.size w w' := by
  by_cases hk : 300 < (key.size : Int)
  · go_enter Try.func5, Try.ntmps5
    go_wp2_with fail
    refine (awake_calls _).mono ?_
    rintro e w1 ⟨rfl, hb1⟩
    go_wp2_with fail
    go_ret
    exact ⟨rfl, hb1⟩
  · go_enter Try.func5, Try.ntmps5
    go_wp2_with fail
    refine (awake_calls _).mono ?_
    rintro e w1 ⟨rfl, hb1⟩
    have hs1 := hb1.size
    go_wp2_with fail
    refine (new_calls _).mono ?_
    rintro e w2 ⟨rfl, hT2, hb2⟩
    have hs2 := hb2.size
    have hlt2 := hT2.lt
    go_wp2_with fail
    refine (new_calls _).mono ?_
    rintro e w3 ⟨rfl, hT3, hb3⟩
    have hs3 := hb3.size
    have hin : TwoIn w w1.heap.size w2.heap.size [] [] w3 :=
      ⟨⟨hT2.below hb3, wf_nil, by simp, (hb1.trans (hb2.mono (by omega))).trans (hb3.mono (by omega))⟩, ⟨hT3, wf_nil, by simp, (hb1.trans (hb2.mono (by omega))).trans (hb3.mono (by omega))⟩, by omega, by simp⟩
    clear hT2 hb2 hb1 hT3 hb3
    go_upto_block 0 with fail
    go_cut [9] (fun _ w' => AlikeAfter w w1.heap.size w2.heap.size w')
    case first =>
      go_wp2_with fail
      go_loopg [9] 200 (fun g i wr => AlikeRel w w1.heap.size w2.heap.size len g i wr)
      case atStart => exact ⟨0, rfl, by omega, by omega, rfl, [], [], by simp, hin, rfl, by simp⟩
      case round =>
        obtain ⟨n, rfl, hn1, hn2, rfl, ns, us, hns, hT, hE, hH⟩ := hrel
        have HT := Lib.hid hT
        have HE := Lib.hid hE
        have HH := Lib.hid hH
        have hus : us.length ≤ n := by rw [← ents_length hE]; exact hns
        clear hin hT hE hH
        by_cases hlen : n < len
        · by_cases h200 : n < 200
          · obtain ⟨b, off, rfl, hblt, hat⟩ := hx.at_ (by omega)
            obtain ⟨x, hx1⟩ : ∃ x, xs[n]? = some x := ⟨xs[n]'(by rw [hx.count]; exact hlen), by simp⟩
            have hp0 := hat n x hx1
            have hbw := HT.out.fst.2.2.2
            have hsw := hbw.size
            have hp1 := hp0.below hbw hblt
            have Hp0 := Lib.hid hp0
            have Hp1 := Lib.hid hp1
            obtain ⟨q0, q1, q2, q3, q4⟩ := hp1
            clear hx hat hx1 hp0 hbw
            go_wp2_with fail
            refine (large_calls _ _ _ _ _).mono ?_
            rintro e w4 ⟨rfl, hb4⟩
            have hs4 := hb4.size
            have hbw4 := HT.out.fst.2.2.2.trans (hb4.mono HT.out.fst.2.2.2.size)
            by_cases hla : largeB x.k x.v = true
            · have Hla := Lib.hid hla
              clear hla
              rw [Hla.out]
              have HB := Lib.hid hbw4
              clear hbw4
              go_wp2_with fail
              go_ret
              exact ⟨rfl, HB.out⟩
            · have Hla := Lib.hid (show largeB x.k x.v = false by simpa using hla)
              clear hla
              rw [Hla.out]
              have hp4 := Hp1.out.below hb4 (by omega)
              have Hp4 := Lib.hid hp4
              obtain ⟨r0, r1, r2, r3, r4⟩ := hp4
              have HT4 := Lib.hid (HT.out.below hb4)
              clear hbw4 hb4 q0 q1 q2 q3 q4
              go_upto_region 11 with fail
              go_cut [10] (fun v wr => v = .int .i64 (lim x.h) ∧ wr = w4)
              case first =>
                by_cases h1 : x.h < 1
                · have e : lim x.h = 1 := by unfold lim; rw [if_pos h1]
                  have He := Lib.hid e
                  clear e
                  go_wp2_with fail
                  go_meet
                  case rel => exact ⟨by rw [He.out], rfl⟩
                · by_cases h8 : 8 < x.h
                  · have e : lim x.h = 8 := by unfold lim; rw [if_neg h1, if_pos h8]
                    have He := Lib.hid e
                    clear e
                    go_wp2_with fail
                    go_meet
                    case rel => exact ⟨by rw [He.out], rfl⟩
                  · have e : lim x.h = x.h := by unfold lim; rw [if_neg h1, if_neg h8]
                    have He := Lib.hid e
                    clear e
                    go_wp2_with fail
                    go_meet
                    case rel => exact ⟨by rw [He.out], rfl⟩
              case rest =>
                obtain ⟨rfl, rfl⟩ := hcut
                have hl := lim_in x.h
                generalize lim x.h = hh at hl
                have Hres := Lib.hid (res_ents HE.out (k := x.k) (s := x.s) (d := x.d) (v := x.v) (h1 := hh) (h2 := 1) hl (by omega))
                have hs0 : w.heap.size ≤ w1.heap.size := hs1
                have hT0 := HT4.out.below (Below.refl _ _).drew
                have hW1 := hT0.fst.2.1
                have hW2 := hT0.snd.2.1
                have HT0 := Lib.hid hT0
                clear hT0
                have hs2' : w.heap.size ≤ w2.heap.size := by omega
                go_wp2_with fail
                go_region_with (first
                  | (go_at_call_of 13 (Value.pointer (some (Addr.mk w1.heap.size 0 none))); refine (put_wf _ _ _ _ _ _ _ _ HT0.out.fst.1 hW1 (by omega)).mono ?_; rintro e wa ⟨rfl, ba, hba, hTa, hWa, hOa⟩; rw [Hres.out]; have hTwo := HT0.out.put hs0 hba hTa hWa hOa; have hpa := Hp0.out.below hTwo.fst.2.2.2 hblt; obtain ⟨s0, s1, s2, s3, s4⟩ := hpa; have HTa := Lib.hid hTwo; clear hTa hWa hOa hTwo hba)
                  | (go_at_call_of 13 (Value.pointer (some (Addr.mk w2.heap.size 0 none))); refine (put_wf _ _ _ _ _ _ _ _ HTa.out.snd.1 hW2 (by omega)).mono ?_; rintro e wb ⟨rfl, bb, hbb, hTb, hWb, hOb⟩; have hTwoB := (HTa.out.swap.put hs2' hbb hTb hWb hOb).swap; have HTb := Lib.hid hTwoB; clear hTb hWb hOb hTwoB hbb))
                all_goals go_wp2_with fail
                all_goals go_roundg (200 - (n + 1))
                all_goals first | omega | exact ⟨n + 1, by go_num, by omega, by omega, rfl, _, _, Nat.le_trans putL_len (by omega), HTb.out, putL_ents HE.out hl (by omega), putL_height rfl HH.out⟩
          · go_wp2_with fail
            go_meet
            case rel => exact ⟨ns, us, by omega, HT.out, HE.out, HH.out⟩
        · go_wp2_with fail
          go_meet
          case rel => exact ⟨ns, us, by omega, HT.out, HE.out, HH.out⟩
    case rest =>
      obtain ⟨ns, us, hns, hT, hE, hH⟩ := hcut
      have hsc := hT.fst.2.2.2.size
      have hus : us.length ≤ 200 := by rw [← ents_length hE]; exact hns
      have hpre := ents_pre (key := key) (seq := seq) hE
      have HE := Lib.hid hE
      have HH := Lib.hid hH
      have Hpre := Lib.hid hpre
      clear hx hin hE hH hpre
      go_wp2_with fail
      refine (get_one _ _ _ _ _ hT.fst.1 hT.fst.2.1).mono ?_
      rintro e w4 ⟨rfl, hb4⟩
      have hs4 := hb4.size
      have hT4 := hT.below hb4
      have Hg := Lib.hid (got_ents (key := key) Hpre.out.2)
      generalize ho : gotOf key (postOf key seq ns) = o
      have Ho := Lib.hid ho
      clear hT hb4 ho
      go_wp2_with fail
      have hT5 := hT4.below ((Below.refl _ _).alloc (Nat.le_refl _) (.cells #[.string (gk o), .int .u64 (gs o), .bool (gd o), .string (gv o)] 34))
      refine (get_one _ _ _ _ _ hT5.snd.1 hT5.snd.2.1).mono ?_
      rintro e w5 ⟨rfl, hb5⟩
      have hT6 := hT5.below hb5
      have hs5 := hb5.size
      simp at hs5
      have hX := (Blk.new w4 34 #[.string (gk o), .int .u64 (gs o), .bool (gd o), .string (gv o)]).below hb5 (by simp)
      obtain ⟨o1, o2, o3, o4, o5⟩ := Hg.out
      rw [Ho.out] at o1 o2 o3 o4 o5
      rw [← o1, ← o2, ← o3, ← o4, ← o5]
      clear o1 o2 o3 o4 o5 hT4 hT5 hb5
      go_wp2_with fail
      have hT7 := hT6.below ((Below.refl _ _).alloc (Nat.le_refl _) (.cells #[.string (gk o), .int .u64 (gs o), .bool (gd o), .string (gv o)] 34))
      have hX7 := hX.alloc (.cells #[.string (gk o), .int .u64 (gs o), .bool (gd o), .string (gv o)] 34)
      have hY7 := Blk.new w5 34 #[.string (gk o), .int .u64 (gs o), .bool (gd o), .string (gv o)]
      refine (steps_wf _ _ _ _ _ hT7.fst.1 hT7.fst.2.1).mono ?_
      rintro e w6 ⟨rfl, hb6⟩
      have hs6 := hb6.size
      simp at hs6
      have hT8 := hT7.below hb6
      have hX8 := hX7.below hb6 (by simp; omega)
      have hY8 := hY7.below hb6 (by simp)
      have hv : visL 0 (preOf key seq ns) ≤ visL 0 (preOf key seq us) := by
        rw [visL_flat (H := 1) (by omega) (fun m hm => HH.out m (mem_pre hm)), ← ents_length Hpre.out.1]
        exact visL_le 0 _
      generalize visL 0 (preOf key seq ns) = V1 at hv
      clear hT6 hX hT7 hX7 hY7 hb6
      go_wp2_with fail
      refine (steps_wf _ _ _ _ _ hT8.snd.1 hT8.snd.2.1).mono ?_
      rintro e w7 ⟨rfl, hb7⟩
      have hs7 := hb7.size
      have hT9 := hT8.below hb7
      have hX9 := hX8.below hb7 (by omega)
      have hY9 := hY8.below hb7 (by omega)
      generalize visL 0 (preOf key seq us) = V2 at hv
      have hv' : ¬ (V2 : Int) < (V1 : Int) := by omega
      have x0 : w7.cell? ⟨w4.heap.size, 0, none⟩ = some (.string (gk o)) := hX9.cell 0
      have x1 : w7.cell? ⟨w4.heap.size, 1, none⟩ = some (.int .u64 (gs o)) := hX9.cell 1
      have x2 : w7.cell? ⟨w4.heap.size, 2, none⟩ = some (.bool (gd o)) := hX9.cell 2
      have x3 : w7.cell? ⟨w4.heap.size, 3, none⟩ = some (.string (gv o)) := hX9.cell 3
      have y0 : w7.cell? ⟨w5.heap.size, 0, none⟩ = some (.string (gk o)) := hY9.cell 0
      have y1 : w7.cell? ⟨w5.heap.size, 1, none⟩ = some (.int .u64 (gs o)) := hY9.cell 1
      have y2 : w7.cell? ⟨w5.heap.size, 2, none⟩ = some (.bool (gd o)) := hY9.cell 2
      have y3 : w7.cell? ⟨w5.heap.size, 3, none⟩ = some (.string (gv o)) := hY9.cell 3
      clear hT8 hX8 hY8 hb7 hX9 hY9
      go_wp2_with fail
      refine (all_calls _ _ _ hT9.fst.1 hT9.fst.2.1).mono ?_
      rintro e w8 ⟨va, rfl, hown, hb8⟩
      have hs8 := hb8.size
      have hT10 := hT9.below hb8
      obtain ⟨ea, ca, rfl⟩ := own_slice hown
      have hEa := EntsAt.own hown
      clear hT9 hb8 hown x0 x1 x2 x3 y0 y1 y2 y3
      go_wp2_with fail
      refine (all_calls _ _ _ hT10.snd.1 hT10.snd.2.1).mono ?_
      rintro e w9 ⟨vb, rfl, hown, hb9⟩
      have hs9 := hb9.size
      have hT11 := hT10.below hb9
      obtain ⟨eb, cb, rfl⟩ := own_slice hown
      have hEb := EntsAt.own hown
      have hEa' := hEa.below hb9
      have hlen := ents_length HE.out
      have Hlen := Lib.hid hlen
      rw [← hlen]
      clear hT10 hb9 hown hEa hlen
      go_wp2_with fail
      refine (same_calls ea eb ns.length ca cb ns us w9 hEa' hEb rfl Hlen.out.symm (ents_at HE.out) (by omega)).mono ?_
      rintro e w10 ⟨rfl, q, rfl⟩
      have hT12 := hT11.below (below_drewN (Below.refl _ _) q)
      clear hT11 hEa' hEb
      go_wp2_with fail
      refine (len_calls _ _ _ hT12.fst.1).mono ?_
      rintro e w11 ⟨rfl, rfl⟩
      go_wp2_with fail
      refine (len_calls _ _ _ hT12.snd.1).mono ?_
      rintro e w11 ⟨rfl, rfl⟩
      rw [← Hlen.out]
      go_wp2_with fail
      refine (size_calls _ _ _ hT12.fst.1).mono ?_
      rintro e w11 ⟨rfl, rfl⟩
      go_wp2_with fail
      refine (size_calls _ _ _ hT12.snd.1).mono ?_
      rintro e w11 ⟨rfl, rfl⟩
      rw [← ents_size HE.out]
      go_wp2_with fail
      go_ret
      exact ⟨by simp, hT12.fst.2.2.2⟩

end Go.Proofs.Ytbocdopjikkomaa
