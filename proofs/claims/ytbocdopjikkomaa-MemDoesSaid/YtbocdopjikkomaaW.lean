/- The walk over MemDoes. -/
import Derived.Test.YtbocdopjikkomaaZ
import Derived.Test.YtbocdopjikkomaaQ
import Derived.Deep.RegionWith
import Derived.Deep.RegionHeld3
namespace Go.Proofs.Ytbocdopjikkomaa
open Go.RowKit

/-- The table and the reference's, of the same puts. -/
structure Pair (w0 : World) (t u : Nat) (ns : List Nd) (wr : World) : Prop where
  tab : TabIn w0 t ns wr
  ref : RTab u ns wr
  ht : w0.heap.size ≤ t
  hu : w0.heap.size ≤ u

theorem Pair.below {w0 : World} {t u : Nat} {ns : List Nd} {w w' : World} (h : Pair w0 t u ns w) (hb : Below w.heap.size w w') : Pair w0 t u ns w' :=
  ⟨h.tab.below hb, h.ref.below hb, h.ht, h.hu⟩

/-- A put into the table, then into the reference's. -/
theorem Pair.put {w0 wr wa wb : World} {t u b : Nat} {ns : List Nd} {k : ByteArray} {s : Int} {d : Bool} {v : ByteArray} {h : Int}
    (hp : Pair w0 t u ns wr) (hb : wr.heap.size ≤ b) (hT : Tab t (putL b ns k s d v h) wa) (hW : Wf (putL b ns k s d v h)) (hO : Only t ns wr wa)
    (hR : RTab u (putL b ns k s d v h) wb) (hO2 : Only u [] wa wb) : Pair w0 t u (putL b ns k s d v h) wb := by
  have h1 := hp.tab.step (Below.refl _ _) hp.ht hb hT hW hO
  have hRa := hp.ref.only hO hp.tab.1
  obtain ⟨la, lc, ha, hc, hB, _⟩ := hRa
  obtain ⟨f, hh, hf⟩ := h1.1
  refine ⟨⟨⟨f, ⟨(hO2.block t hh.head.lt ?_ (by simp)).trans hh.head, fun m hm => (hO2.block m.b (hh.node m hm).lt ?_ (by simp)).trans (hh.node m hm)⟩, hf⟩, h1.2.1, h1.2.2.1, ?_⟩, hR, hp.ht, hp.hu⟩
  · exact hh.head.ne hB (by decide)
  · exact (hh.node m hm).ne hB (by decide)
  · exact h1.2.2.2.trans (hO2.below h1.2.2.2.size hp.hu (by simp))

def DoesRel (w0 : World) (t u len : Nat) (g : Nat) (i : Value) (wr : World) : Prop :=
  ∃ n : Nat, i = .int .i64 n ∧ n ≤ len ∧ n ≤ 200 ∧ g = 200 - n ∧ ∃ ns, ns.length ≤ n ∧ Pair w0 t u ns wr

def DoesAfter (w0 : World) (t u : Nat) (wr : World) : Prop := ∃ ns, ns.length ≤ 200 ∧ Pair w0 t u ns wr

set_option maxRecDepth 100000 in
set_option maxHeartbeats 8000000 in
theorem does_calls (ao : Option Addr) (len cap : Nat) (xs : List Pt) (key : ByteArray) (seq n0 : Int) (w : World) (hx : PutsAt w ao len xs) :
    Calls Try.prog 3 #[.slice ao len cap, .string key, .int .u64 seq, .int .i64 n0] w fun e w' => e = .returned (.bool true) ∧ Below w.heap.size w w' := by
  by_cases hk : 300 < (key.size : Int)
  · go_enter Try.func3, Try.ntmps3
    go_wp2_with fail
    refine (awake_calls _).mono ?_
    rintro e w1 ⟨rfl, hb1⟩
    go_wp2_with fail
    go_ret
    exact ⟨rfl, hb1⟩
  · go_enter Try.func3, Try.ntmps3
    go_wp2_with fail
    refine (awake_calls _).mono ?_
    rintro e w1 ⟨rfl, hb1⟩
    have hs1 := hb1.size
    go_wp2_with fail
    refine (new_calls _).mono ?_
    rintro e w2 ⟨rfl, hT2, hb2⟩
    have hs2 := hb2.size
    have hlt2 := hT2.lt
    have hin : Pair w w1.heap.size w2.heap.size [] (w2.alloc (.cells #[.slice none 0 0, .slice none 0 0] 31)) :=
      ⟨⟨hT2.below ((Below.refl _ _).alloc (Nat.le_refl _) _), wf_nil, by simp, (hb1.trans (hb2.mono (by omega))).trans ((Below.refl _ _).alloc (by omega) _)⟩, RTab.nil (Blk.new _ _ _), by omega, by omega⟩
    clear hT2 hb2 hb1
    go_upto_block 0 with fail
    go_cut [11] (fun _ w' => DoesAfter w w1.heap.size w2.heap.size w')
    case first =>
      go_wp2_with fail
      go_loopg [11] 200 (fun g i wr => DoesRel w w1.heap.size w2.heap.size len g i wr)
      case atStart => exact ⟨0, rfl, by omega, by omega, rfl, [], by simp, hin⟩
      case round =>
        obtain ⟨n, rfl, hn1, hn2, rfl, ns, hns, hT⟩ := hrel
        have HT := Lib.hid hT
        clear hin hT
        by_cases hlen : n < len
        · by_cases h200 : n < 200
          · obtain ⟨b, off, rfl, hblt, hat⟩ := hx.at_ (by omega)
            obtain ⟨x, hx1⟩ : ∃ x, xs[n]? = some x := ⟨xs[n]'(by rw [hx.count]; exact hlen), by simp⟩
            have hp0 := hat n x hx1
            have hbw := HT.out.tab.2.2.2
            have hsw := hbw.size
            have hp1 := hp0.below hbw hblt
            have Hp0 := Lib.hid hp0
            have Hp1 := Lib.hid hp1
            obtain ⟨q0, q1, q2, q3, q4⟩ := hp1
            clear hx hat hx1 hp0 hbw
            go_wp2_with fail
            refine (large_calls _ _ _ _ _).mono ?_
            rintro e w4 ⟨rfl, hb4⟩
            have hs4 := hb4.size
            have hbw4 := HT.out.tab.2.2.2.trans (hb4.mono HT.out.tab.2.2.2.size)
            by_cases hla : largeB x.k x.v = true
            · have Hla := Lib.hid hla
              clear hla
              rw [Hla.out]
              have HB := Lib.hid hbw4
              clear hbw4
              go_wp2_with fail
              go_ret
              exact ⟨rfl, HB.out⟩
            · have Hla := Lib.hid (show largeB x.k x.v = false by simpa using hla)
              clear hla
              rw [Hla.out]
              have hp4 := Hp1.out.below hb4 (by omega)
              have Hp4 := Lib.hid hp4
              obtain ⟨r0, r1, r2, r3, r4⟩ := hp4
              have hT4 := HT.out.below hb4
              have HT4 := Lib.hid hT4
              have hT0 := hT4.below (Below.refl _ _).drew
              have hW1 := hT0.tab.2.1
              have HT0 := Lib.hid hT0
              clear hbw4 hb4 q0 q1 q2 q3 q4 hT4 hT0
              obtain ⟨pr, hpr⟩ : ∃ pr, putRes ns x.k x.s x.d x.v x.h = pr := ⟨_, rfl⟩
              have Hpr := Lib.hid hpr
              clear hpr
              go_upto_region 12 with fail
              go_cut [66] (fun v wr => v = .bool false ∧ ∃ us, us.length ≤ n + 1 ∧ Pair w w1.heap.size w2.heap.size us wr)
              case first =>
                go_region_held3 (fun w' => w'.cell? ⟨b, off + n * 5, none⟩ = some (.string x.k) ∧ w'.cell? ⟨b, off + n * 5 + 1, none⟩ = some (.int .u64 x.s) ∧ w'.cell? ⟨b, off + n * 5 + 2, none⟩ = some (.bool x.d) ∧ w'.cell? ⟨b, off + n * 5 + 3, none⟩ = some (.string x.v) ∧ w'.cell? ⟨b, off + n * 5 + 4, none⟩ = some (.int .i64 x.h))
                  (first | exact ⟨r0, r1, r2, r3, r4⟩ | exact ⟨s0, s1, s2, s3, s4⟩ | exact ⟨t0, t1, t2, t3, t4⟩ | go_keep)
                  (first
                  | (go_at_call 13; refine (put_wf _ _ _ _ _ _ _ _ HT0.out.tab.1 hW1 (by omega)).mono ?_; rintro e wa ⟨rfl, ba, hba, hTa, hWa, hOa⟩; rw [Hpr.out]; have hpa := Hp0.out.below ((HT0.out.tab.step (Below.refl _ _) HT0.out.ht hba hTa hWa hOa).2.2.2) hblt; obtain ⟨s0, s1, s2, s3, s4⟩ := hpa; have HRa := Lib.hid (HT0.out.ref.only hOa HT0.out.tab.1); have HPa := Lib.hid (And.intro hba (And.intro hTa (And.intro hWa hOa))); clear hTa hWa hOa hba)
                  | (go_at_call 14; refine (rput_calls _ _ _ _ _ _ _ _ HRa.out hW1 (by omega)).mono ?_; rintro e wb ⟨rfl, hRb, hOb⟩; rw [Hpr.out]; have HPb := Lib.hid (Pair.put HT0.out HPa.out.1 HPa.out.2.1 HPa.out.2.2.1 HPa.out.2.2.2 (hRb ba) hOb); clear hRb hOb; have hpb := Hp0.out.below HPb.out.tab.2.2.2 hblt; obtain ⟨t0, t1, t2, t3, t4⟩ := hpb))
                all_goals go_wp2_with fail
                all_goals go_meet
                all_goals exact ⟨by simp, _, Nat.le_trans putL_len (by omega), HPb.out⟩
              case rest =>
                obtain ⟨rfl, us, hus, hP⟩ := hcut
                have hul : us.length ≤ 200 := by omega
                clear HT4 HT0 HT Hp0 Hp1 Hp4 r0 r1 r2 r3 r4 hW1
                go_wp2_with fail
                refine (get_one _ _ _ _ _ hP.tab.1 hP.tab.2.1).mono ?_
                rintro e w5 ⟨rfl, hb5⟩
                have hs5 := hb5.size
                have hP5 := hP.below hb5
                rw [got_find hP.tab.2.1]
                obtain ⟨o, ho⟩ : ∃ o, findM key seq us = o := ⟨_, rfl⟩
                have Ho := Lib.hid ho
                rw [ho]
                clear ho hb5 hP
                go_wp2_with fail
                have hP6 := hP5.below ((Below.refl _ _).alloc (Nat.le_refl _) (.cells #[.string (gk o), .int .u64 (gs o), .bool (gd o), .string (gv o)] 34))
                refine (rget_calls _ _ _ _ _ hP6.ref hul).mono ?_
                rintro e w6 ⟨rfl, hb6⟩
                rw [Ho.out]
                have hP7 := hP6.below hb6
                have hs6 := hb6.size
                simp at hs6
                have hX := (Blk.new w5 34 #[.string (gk o), .int .u64 (gs o), .bool (gd o), .string (gv o)]).below hb6 (by simp)
                clear hP5 hP6 hb6
                obtain ⟨W, hW⟩ : ∃ W, W = w6.alloc (.cells #[.string (gk o), .int .u64 (gs o), .bool (gd o), .string (gv o)] 34) := ⟨_, rfl⟩
                have hP8 : Pair w w1.heap.size w2.heap.size us W := by rw [hW]; exact hP7.below ((Below.refl _ _).alloc (Nat.le_refl _) _)
                have hX8 : Blk W w5.heap.size 34 #[.string (gk o), .int .u64 (gs o), .bool (gd o), .string (gv o)] := by rw [hW]; exact hX.alloc _
                have hY8 : Blk W w6.heap.size 34 #[.string (gk o), .int .u64 (gs o), .bool (gd o), .string (gv o)] := by rw [hW]; exact Blk.new w6 34 _
                have hs8 : w6.heap.size < W.heap.size := by rw [hW]; simp
                have HW := Lib.hid hW
                clear hP7 hX hW
                go_upto_region 16 with fail
                rw [← HW.out]
                go_cut [116] (fun v wr => v = .bool false ∧ Pair w w1.heap.size w2.heap.size us wr)
                case first =>
                  have hPd := hP8.below (Below.refl _ _).drew
                  obtain ⟨la, lc, ha, hc, hB8, _⟩ := hP8.ref
                  have x0 : W.cell? ⟨w5.heap.size, 0, none⟩ = some (.string (gk o)) := hX8.cell 0
                  have x1 : W.cell? ⟨w5.heap.size, 1, none⟩ = some (.int .u64 (gs o)) := hX8.cell 1
                  have x2 : W.cell? ⟨w5.heap.size, 2, none⟩ = some (.bool (gd o)) := hX8.cell 2
                  have x3 : W.cell? ⟨w5.heap.size, 3, none⟩ = some (.string (gv o)) := hX8.cell 3
                  have y0 : W.cell? ⟨w6.heap.size, 0, none⟩ = some (.string (gk o)) := hY8.cell 0
                  have y1 : W.cell? ⟨w6.heap.size, 1, none⟩ = some (.int .u64 (gs o)) := hY8.cell 1
                  have y2 : W.cell? ⟨w6.heap.size, 2, none⟩ = some (.bool (gd o)) := hY8.cell 2
                  have y3 : W.cell? ⟨w6.heap.size, 3, none⟩ = some (.string (gv o)) := hY8.cell 3
                  have z0 : W.cell? ⟨w2.heap.size, 0, none⟩ = some (.slice la us.length lc) := hB8.cell 0
                  have zl : w2.heap.size < W.heap.size := hB8.lt
                  have HPd := Lib.hid hPd
                  have HP8 := Lib.hid hP8
                  have HX := Lib.hid hX8
                  have HY := Lib.hid hY8
                  have HB := Lib.hid hB8
                  have hsW : W.drew.heap.size = W.heap.size := rfl
                  have HsW := Lib.hid hsW
                  clear hX8 hY8 hB8 hPd hP8 hsW
                  go_region_held3 (fun w' => (w'.cell? ⟨w5.heap.size, 0, none⟩ = some (.string (gk o)) ∧ w'.cell? ⟨w5.heap.size, 1, none⟩ = some (.int .u64 (gs o)) ∧ w'.cell? ⟨w5.heap.size, 2, none⟩ = some (.bool (gd o)) ∧ w'.cell? ⟨w5.heap.size, 3, none⟩ = some (.string (gv o)))
                      ∧ (w'.cell? ⟨w6.heap.size, 0, none⟩ = some (.string (gk o)) ∧ w'.cell? ⟨w6.heap.size, 1, none⟩ = some (.int .u64 (gs o)) ∧ w'.cell? ⟨w6.heap.size, 2, none⟩ = some (.bool (gd o)) ∧ w'.cell? ⟨w6.heap.size, 3, none⟩ = some (.string (gv o)))
                      ∧ w'.cell? ⟨w2.heap.size, 0, none⟩ = some (.slice la us.length lc))
                    (first | exact ⟨⟨x0, x1, x2, x3⟩, ⟨y0, y1, y2, y3⟩, z0⟩ | exact Hkeep.out | go_keep)
                    (first
                    | (go_at_call 17; refine (len_calls _ _ _ HPd.out.tab.1).mono ?_; rintro e wa ⟨rfl, rfl⟩)
                    | (go_at_call 18; refine (size_calls _ _ _ HPd.out.tab.1).mono ?_; rintro e wa ⟨rfl, rfl⟩)
                    | (go_at_call 19; refine (rsize_calls _ _ _ HPd.out.ref HPd.out.tab.2.1 hul).mono ?_; rintro e wa ⟨rfl, q, rfl⟩)
                    | (go_at_call 20; refine (steps_wf _ _ _ _ _ (HP8.out.below (below_drewN (Below.refl _ _) (1 + q))).tab.1 HPd.out.tab.2.1).mono ?_; rintro e wd ⟨rfl, hbd⟩; have HPe := Lib.hid ((HP8.out.below (below_drewN (Below.refl _ _) (1 + q))).below hbd); have HX1 := (HX.out.drewN (1 + q)).below hbd (by have := HX.out.lt; exact this); have HY1 := (HY.out.drewN (1 + q)).below hbd (by have := HY.out.lt; exact this); have HB1 := (HB.out.drewN (1 + q)).below hbd (by have := HB.out.lt; exact this); have Hkeep := Lib.hid (show (wd.cell? ⟨w5.heap.size, 0, none⟩ = some (.string (gk o)) ∧ wd.cell? ⟨w5.heap.size, 1, none⟩ = some (.int .u64 (gs o)) ∧ wd.cell? ⟨w5.heap.size, 2, none⟩ = some (.bool (gd o)) ∧ wd.cell? ⟨w5.heap.size, 3, none⟩ = some (.string (gv o))) ∧ (wd.cell? ⟨w6.heap.size, 0, none⟩ = some (.string (gk o)) ∧ wd.cell? ⟨w6.heap.size, 1, none⟩ = some (.int .u64 (gs o)) ∧ wd.cell? ⟨w6.heap.size, 2, none⟩ = some (.bool (gd o)) ∧ wd.cell? ⟨w6.heap.size, 3, none⟩ = some (.string (gv o))) ∧ wd.cell? ⟨w2.heap.size, 0, none⟩ = some (.slice la us.length lc) from ⟨⟨HX1.cell 0, HX1.cell 1, HX1.cell 2, HX1.cell 3⟩, ⟨HY1.cell 0, HY1.cell 1, HY1.cell 2, HY1.cell 3⟩, HB1.cell 0⟩); clear HX1 HY1 HB1 hbd)
                    | (go_at_call 21; refine (rsteps_calls _ _ _ _ _ HPe.out.ref HPe.out.tab.2.1 hul).mono ?_; rintro e we ⟨rfl, q2, rfl⟩))
                  all_goals go_wp2_with fail
                  all_goals go_meet
                  all_goals exact ⟨rfl, HPe.out.below (below_drewN (Below.refl _ _) _)⟩
                case rest =>
                  obtain ⟨rfl, hPc⟩ := hcut
                  go_wp2_with fail
                  go_roundg (200 - (n + 1))
                  case measure => omega
                  case rel => exact ⟨n + 1, by go_num, by omega, by omega, rfl, us, by omega, hPc⟩
          · go_wp2_with fail
            go_meet
            case rel => exact ⟨ns, by omega, HT.out⟩
        · go_wp2_with fail
          go_meet
          case rel => exact ⟨ns, by omega, HT.out⟩
    case rest =>
      obtain ⟨us, hul, hP⟩ := hcut
      have hW := hP.tab.2.1
      have HW := Lib.hid hW
      clear hx hin hW
      go_wp2_with fail
      refine (towers_calls _ _ _ hP.tab.1 HW.out).mono ?_
      rintro e w4 ⟨va, rfl, hown, hb4⟩
      have hs4 := hb4.size
      have hP4 := hP.below hb4
      obtain ⟨ea, ca, rfl⟩ := own_slice hown
      have hT := Src.own hown
      have hTc := hT.le
      have HT := Lib.hid hT
      obtain ⟨la, lc, ha, hc, hB, hL, hH, _⟩ := hP4.ref
      have hHc := hH.le
      have c1 : w4.cell? ⟨w2.heap.size, 1, none⟩ = some (.slice ha us.length hc) := hB.cell 1
      have c0 : w4.cell? ⟨w2.heap.size, 0, none⟩ = some (.slice la us.length lc) := hB.cell 0
      have HB := Lib.hid hB
      have HL := Lib.hid hL
      have HH := Lib.hid hH
      have HP4 := Lib.hid hP4
      have hrlt : w2.heap.size < w4.heap.size := hB.lt
      clear hown hT hB hL hH hP4 hb4 hP
      go_wp2_with fail
      go_loopg [129] us.length (fun g j wr => ∃ n : Nat, j = .int .i64 n ∧ n ≤ us.length ∧ g = us.length - n ∧ ∃ q, wr = w4.drewN q)
      case atStart => exact ⟨0, rfl, by omega, by omega, 0, rfl⟩
      case round =>
        obtain ⟨n, rfl, hn1, rfl, q, rfl⟩ := hrel
        by_cases hlt : n < us.length
        · obtain ⟨m, hm⟩ : ∃ m, us[n]? = some m := ⟨us[n]'hlt, by simp⟩
          obtain ⟨b, off, rfl, hblt, e0⟩ := HT.out.hgt hm
          obtain ⟨b', off', rfl, hblt', f0⟩ := HH.out.hgt hm
          have hlti : (n : Int) < (us.length : Int) := by omega
          clear hm c0
          go_wp2_with fail
          go_quiet (fail)
          go_wp2_with fail
          go_roundg (us.length - (n + 1))
          case measure => omega
          case rel => exact ⟨n + 1, by go_num, by omega, rfl, _, rfl⟩
        · have HP5 := Lib.hid (HP4.out.below (below_drewN (Below.refl _ _) q))
          have HL5 := Lib.hid (HL.out.below (below_drewN (Below.refl _ _) q))
          have HB5 := Lib.hid (HB.out.drewN q)
          obtain ⟨fs, hfs⟩ : ∃ fs, (postOf key 18446744073709551615 us).take n0.toNat = fs := ⟨_, rfl⟩
          have Hfl := Lib.hid (show fs.length ≤ 100000 by
            have := congrArg List.length (pre_post key 18446744073709551615 us)
            rw [List.length_append] at this
            rw [← hfs, List.length_take]
            omega)
          have Hfrom := Lib.hid (show ∀ W, Pair w w1.heap.size w2.heap.size us W → Calls Try.prog 25 #[.pointer (some ⟨w1.heap.size, 0, none⟩), .string key, .int .i64 n0] W (FromPost W fs) by
            intro W h; rw [← hfs]; exact from_wf _ _ _ _ _ h.tab.1 HW.out)
          have Hrfrom := Lib.hid (show ∀ W, Pair w w1.heap.size w2.heap.size us W → Calls Try.prog 26 #[.pointer (some ⟨w2.heap.size, 0, none⟩), .string key, .int .i64 n0] W (FromPost W fs) by
            intro W h; rw [← hfs]; exact rfrom_calls _ _ _ _ _ h.ref HW.out hul)
          clear hfs
          clear c1 c0
          go_upto_region 27 with fail
          generalize w4.drewN q = W at HP5 HL5 HB5
          have z0 : W.cell? ⟨w2.heap.size, 0, none⟩ = some (.slice la us.length lc) := HB5.out.cell 0
          have zl : w2.heap.size < W.heap.size := HB5.out.lt
          go_region_held3 (fun w' => w'.cell? ⟨w2.heap.size, 0, none⟩ = some (.slice la us.length lc))
            (first | exact z0 | exact zA | exact zC | exact zD | go_keep)
            (first
            | (go_at_call 24; refine (all_calls _ _ _ (HP5.out.below (Below.refl _ _).drew).tab.1 HW.out).mono ?_; rintro e wA ⟨vA, rfl, hownA, hbA⟩; obtain ⟨aA, cA, rfl⟩ := own_slice hownA; have HEA := Lib.hid (EntsAt.own hownA); have HPA := Lib.hid ((HP5.out.below (Below.refl _ _).drew).below hbA); have HLA := Lib.hid ((HL5.out.below (Below.refl _ _).drew).below hbA); have zA : wA.cell? ⟨w2.heap.size, 0, none⟩ = some (.slice la us.length lc) := (Blk.below (w := W.drew) HB5.out hbA zl).cell 0; have HBA := Lib.hid (Blk.below (w := W.drew) HB5.out hbA zl); clear hownA hbA)
            | (go_at_call_of 23 (Value.slice aA us.length cA); refine (same_calls _ _ _ _ _ us us _ HEA.out HLA.out.ents rfl rfl sameEn_refl (by omega)).mono ?_; rintro e wB ⟨rfl, qB, rfl⟩)
            | (go_at_call 25; refine (Hfrom.out _ (HPA.out.below (below_drewN (Below.refl _ _) qB))).mono ?_; rintro e wC ⟨vC, rfl, hownC, hbC⟩; obtain ⟨aC, cC, rfl⟩ := own_slice hownC; have HEC := Lib.hid (EntsAt.own hownC); have HPC := Lib.hid ((HPA.out.below (below_drewN (Below.refl _ _) qB)).below hbC); have HBC := Lib.hid ((HBA.out.drewN qB).below hbC HBA.out.lt); have zC : wC.cell? ⟨w2.heap.size, 0, none⟩ = some (.slice la us.length lc) := HBC.out.cell 0; clear hownC hbC)
            | (go_at_call 26; refine (Hrfrom.out _ HPC.out).mono ?_; rintro e wD ⟨vD, rfl, hownD, hbD⟩; obtain ⟨aD, cD, rfl⟩ := own_slice hownD; have HED := Lib.hid (EntsAt.own hownD); have HEC2 := Lib.hid (HEC.out.below hbD); have HPD := Lib.hid (HPC.out.below hbD); have zD : wD.cell? ⟨w2.heap.size, 0, none⟩ = some (.slice la us.length lc) := (HBC.out.below hbD HBC.out.lt).cell 0; clear hownD hbD)
            | (go_at_call_of 23 (Value.slice aC fs.length cC); refine (same_calls _ _ _ _ _ fs fs _ HEC2.out HED.out rfl rfl sameEn_refl Hfl.out).mono ?_; rintro e wE ⟨rfl, qE, rfl⟩))
          all_goals go_wp2_with fail
          all_goals go_ret
          all_goals exact ⟨rfl, below_drewN HPD.out.tab.2.2.2 _⟩

end Go.Proofs.Ytbocdopjikkomaa
