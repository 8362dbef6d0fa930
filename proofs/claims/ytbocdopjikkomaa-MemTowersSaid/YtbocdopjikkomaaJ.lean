/- The walk over MemTowers. -/
import Derived.Test.YtbocdopjikkomaaG3
import Derived.Test.YtbocdopjikkomaaS
namespace Go.Proofs.Ytbocdopjikkomaa
open Go.RowKit

theorem towers_val {b : Nat} {ns : List Nd} {k : ByteArray} {s : Int} {d : Bool} {v : ByteArray} {ht : Int} (h : putRes ns k s d v ht = 0) :
    Value.int .i64 ht = (fun n : Nd => Value.int .i64 n.h) ⟨b, k, s, d, v, ht.toNat⟩ := by
  have : 1 ≤ ht := by
    unfold putRes at h
    split at h
    · omega
    · split at h
      · omega
      · omega
  show Value.int .i64 ht = Value.int .i64 (ht.toNat : Int)
  rw [show ((ht.toNat : Nat) : Int) = ht by omega]

theorem size_take {ns : List Nd} {n : Nat} {m : Nd} (hm : ns[n]? = some m) : sizeOf' (ns.take (n + 1)) = sizeOf' (ns.take n) + (m.k.size + m.v.size) := by
  have hlt := (List.getElem?_eq_some_iff.1 hm).1
  rw [List.take_succ_eq_append_getElem hlt, (List.getElem?_eq_some_iff.1 hm).2]
  simp [sizeOf']

theorem size_take_le {ns : List Nd} (h : Wf ns) (n : Nat) : sizeOf' (ns.take n) ≤ 20000000 := by
  have := size_le (ns := ns.take n) fun x hx => by
    have := may_parts (h.may x (List.mem_of_mem_take hx))
    omega
  have h1 := h.len
  have h2 : (ns.take n).length ≤ ns.length := by rw [List.length_take]; omega
  omega

def SumRel (ns : List Nd) (w : World) (g : Nat) (sz j : Value) (wr : World) : Prop :=
  ∃ n : Nat, j = .int .i64 n ∧ n ≤ ns.length ∧ g = ns.length - n ∧ sz = .int .i64 (sizeOf' (ns.take n) : Nat) ∧ ∃ q, wr = w.drewN q

set_option maxRecDepth 100000 in
set_option maxHeartbeats 4000000 in
theorem towers_law_calls (ao : Option Addr) (len cap : Nat) (xs : List Pt) (w : World) (hx : PutsAt w ao len xs) :
    Calls Try.prog 9 #[.slice ao len cap] w fun e w' => e = .returned (.bool true) ∧ Below w.heap.size w w' := by
  go_enter Try.func9, Try.ntmps9
  go_wp2_with fail
  refine (awake_calls _).mono ?_
  rintro e w1 ⟨rfl, hb1⟩
  have hs1 := hb1.size
  go_wp2_with fail
  refine (new_calls _).mono ?_
  rintro e w2 ⟨rfl, hT2, hb2⟩
  have hs2 := hb2.size
  have hin0 : TabIn w w1.heap.size [] w2 := ⟨hT2, wf_nil, by simp, hb1.trans (hb2.mono (by omega))⟩
  have hin : TabIn w w1.heap.size [] (w2.alloc (.map #[] 0)) := hin0.below ((Below.refl _ _).alloc (Nat.le_refl _) _)
  have hM2 : MapIs encE (w2.alloc (.map #[] 0)) w2.heap.size [] := MapIs.made _ _
  have hs2' : w.heap.size ≤ w2.heap.size := by omega
  have hmm := @run_makeMap Try.prog
  clear hT2 hb2 hb1 hin0
  go_upto_block 0 with fail
  clear hmm
  go_cut [5] (fun _ w' => AfterMap (fun n => .int .i64 n.h) w w1.heap.size w2.heap.size w')
  case first =>
    go_wp2_with fail
    go_loopg [5] 200 (fun g i wr => PutMapRel (fun n => .int .i64 n.h) w w1.heap.size w2.heap.size len g i wr)
    case atStart => exact ⟨0, rfl, by omega, by omega, rfl, [], [], by simp, hin, hM2, MapFits.nil _⟩
    case round =>
      obtain ⟨n, rfl, hn1, hn2, rfl, ns, l, hns, hT, hM, hF⟩ := hrel
      have HT := Lib.hid hT
      have HM := Lib.hid hM
      have HF := Lib.hid hF
      clear hin hM2 hT hM hF
      by_cases hlen : n < len
      · by_cases h200 : n < 200
        · obtain ⟨b, off, rfl, hblt, hat⟩ := hx.at_ (by omega)
          obtain ⟨x, hx1⟩ : ∃ x, xs[n]? = some x := ⟨xs[n]'(by rw [hx.count]; exact hlen), by simp⟩
          have hp0 := hat n x hx1
          have hbw := HT.out.2.2.2
          have hsw := hbw.size
          have hp1 := hp0.below hbw hblt
          have Hp1 := Lib.hid hp1
          obtain ⟨q0, q1, q2, q3, q4⟩ := hp1
          clear hx hat hx1 hbw
          have Hp0 := Lib.hid hp0
          clear hp0
          go_wp2_with fail
          refine (large_calls _ _ _ _ _).mono ?_
          rintro e w3 ⟨rfl, hb3⟩
          have hs3 := hb3.size
          have hbw3 := HT.out.2.2.2.trans (hb3.mono HT.out.2.2.2.size)
          by_cases hla : largeB x.k x.v = true
          · have Hla := Lib.hid hla
            clear hla
            rw [Hla.out]
            have HB := Lib.hid hbw3
            clear hbw3
            go_wp2_with fail
            go_ret
            exact ⟨rfl, HB.out⟩
          · have Hla := Lib.hid (show largeB x.k x.v = false by simpa using hla)
            clear hla
            rw [Hla.out]
            obtain ⟨r0, r1, r2, r3, r4⟩ := Hp1.out.below hb3 (by omega)
            have HB3 := Lib.hid hb3
            clear hbw3 hb3 q0 q1 q2 q3 q4
            go_wp2_with fail
            go_still_tail 11, (by kernel_rfl)
            go_wp2_with fail
            have hb3 := HB3.out
            have hin3 := HT.out
            refine (put_wf _ _ _ _ _ _ _ _ (hin3.1.below hb3.drew) hin3.2.1 (by omega)).mono ?_
            rintro e w4 ⟨rfl, b4, hb4, hT4, hW4, hO4⟩
            have hst := hin3.step hb3.drew hs1 hb4 hT4 hW4 hO4
            have hM4 := hO4.map (hin3.1.below hb3.drew) (HM.out.below hb3.drew)
            have HS := Lib.hid hst
            have HW4 := Lib.hid hW4
            have HM4 := Lib.hid hM4
            have hp4 := Hp0.out.below hst.2.2.2 hblt
            obtain ⟨r0, r1, r2, r3, r4⟩ := hp4
            clear hst hM4 hT4 hW4 hO4 hin3 hb3
            generalize hres : putRes ns x.k x.s x.d x.v x.h = res
            have Hres := Lib.hid hres
            clear hres
            by_cases hr0 : res = 0
            · have hrb : (res == 0) = true := by simp [hr0]
              have Hr0 := Lib.hid hr0
              clear hr0
              obtain ⟨w5, hrun, hM5, hg5⟩ := (show MapIs encE w4.drew w2.heap.size l from HM4.out).update entry_kind Try.underlying55 ⟨x.k, x.s, x.d, x.v⟩ (.int .i64 x.h)
              simp only [encE] at hrun
              have HM5 := Lib.hid hM5
              have Hg5 := Lib.hid hg5
              clear hM5 hg5
              go_wp2_with fail
              go_still_tail 11, (by kernel_rfl)
              go_wp2_with fail
              go_roundg (200 - (n + 1))
              case measure => omega
              case rel =>
                have e0 : putRes ns x.k x.s x.d x.v x.h = 0 := by rw [Hres.out, Hr0.out]
                refine ⟨n + 1, by go_num, by omega, by omega, rfl, putL b4 ns x.k x.s x.d x.v x.h, _, by rw [length_putL e0]; omega, ?_, HM5.out, HF.out.step e0 HW4.out (towers_val e0)⟩
                exact (show TabIn w w1.heap.size _ w4.drew from HS.out.below (Below.refl _ _).drew).update (show MapIs encE w4.drew w2.heap.size l from HM4.out) Hg5.out hs2'
            · have hrb : (res == 0) = false := by simpa using hr0
              have Hr0 := Lib.hid hr0
              clear hr0
              go_wp2_with fail
              go_roundg (200 - (n + 1))
              case measure => omega
              case rel =>
                have e1 : putL b4 ns x.k x.s x.d x.v x.h = ns := putL_no Hres.out Hr0.out
                have hS := HS.out
                rw [e1] at hS
                exact ⟨n + 1, by go_num, by omega, by omega, rfl, ns, l, by omega, hS, HM4.out, HF.out⟩
        · go_wp2_with fail
          go_meet
          case rel => exact ⟨ns, l, by omega, HT.out, HM.out, HF.out⟩
      · go_wp2_with fail
        go_meet
        case rel => exact ⟨ns, l, by omega, HT.out, HM.out, HF.out⟩
  case rest =>
    obtain ⟨ns, l, hns, hTin, hM, hF⟩ := hcut
    have hsc := hTin.2.2.2.size
    clear hx hin hM2
    go_wp2_with fail
    refine (all_calls _ _ _ hTin.1 hTin.2.1).mono ?_
    rintro e w3 ⟨va, rfl, hown, hb3⟩
    have hs3 := hb3.size
    have hT3 := hTin.below hb3
    have hM3 := hM.below hb3
    have hE3 : ∃ ao c, va = .slice ao ns.length c ∧ EntsAt w3 ao ns := by
      obtain ⟨ao, c, rfl⟩ := own_slice hown
      exact ⟨ao, c, rfl, EntsAt.own hown⟩
    obtain ⟨ea, ca, rfl, hE3⟩ := hE3
    clear hown hTin hM hb3
    go_wp2_with fail
    refine (towers_calls _ _ _ hT3.1 hT3.2.1).mono ?_
    rintro e w4 ⟨vt, rfl, hown, hb4⟩
    have hs4 := hb4.size
    have hT4 := hT3.below hb4
    have hM4 := hM3.below hb4
    have hE4 := hE3.below hb4
    obtain ⟨ta, ct, rfl⟩ := own_slice hown
    clear hT3 hM3 hE3 hb4
    go_wp2_with fail
    refine (len_calls _ _ _ hT4.1).mono ?_
    rintro e w5 ⟨rfl, rfl⟩
    go_wp2_with fail
    go_loopg [8, 72] ns.length (fun g sz j wr => SumRel ns w4 g sz j wr)
    case atStart => exact ⟨0, rfl, by omega, by omega, rfl, 0, rfl⟩
    case round =>
      obtain ⟨n, rfl, hn, rfl, rfl, q, rfl⟩ := hrel
      by_cases hlt : n < ns.length
      · obtain ⟨m, hm⟩ : ∃ m, ns[n]? = some m := ⟨ns[n]'hlt, by simp⟩
        obtain ⟨b, off, rfl, _, hat⟩ := hE4 (by rintro rfl; simp at hm)
        obtain ⟨e0, e1, e2, e3⟩ := hat n m hm
        obtain ⟨g, c, e, _, _, _, _, hcell⟩ := own_some hown (by omega)
        simp only [Value.slice.injEq] at e
        obtain ⟨rfl, _, _⟩ := e
        have t0 : w4.cell? ⟨g, n, none⟩ = some (.int .i64 m.h) := hcell n _ (by simp [hs, hm])
        have hsz := size_take hm
        have hsb := size_take_le hT4.2.1 n
        have hmb := may_parts (hT4.2.1.may m (List.mem_of_getElem? hm))
        have hk1 := hmb.2.1
        have hv1 := hmb.2.2.1
        have hlk : ∀ q, (Instr.lookup 55 (.map (some w2.heap.size)) (.agg #[.string m.k, .int .u64 m.s, .bool m.d, .string m.v]) false).run Try.prog (w4.drewN q) = .ok (.int .i64 m.h) (w4.drewN q) := by
          intro q
          have := (show MapIs encE (w4.drewN q) w2.heap.size l from hM4).lookup entry_kind Try.underlying55 (z := .int .i64 0) (by kernel_rfl) (enOf m)
          rw [hF.get m (List.mem_of_getElem? hm)] at this
          exact this
        have hlti : (n : Int) < (ns.length : Int) := by omega
        have HT4 := Lib.hid hT4
        have HM4 := Lib.hid hM4
        have HSZ := Lib.hid hsz
        generalize hS : sizeOf' (ns.take n) = S at hsb
        have HS := Lib.hid hS
        clear hT4 hM4 hE4 hat hcell hown hm hsz hS hmb hF
        go_wp2_with fail
        go_quiet (fail)
        go_wp2_with fail
        go_quiet (fail)
        go_wp2_with fail
        go_roundg (ns.length - (n + 1))
        case measure => omega
        case rel =>
          refine ⟨n + 1, by go_num, by omega, rfl, ?_, _, rfl⟩
          rw [HSZ.out, HS.out]
          go_num
      · have hS : sizeOf' (ns.take n) = sizeOf' ns := by rw [List.take_of_length_le (by omega)]
        rw [hS]
        have hTq : Tab w1.heap.size ns (w4.drewN q) := hT4.1.below (below_drewN (Below.refl _ _) q)
        have HB := Lib.hid hT4.2.2.2
        clear hS hT4 hM4 hF hE4 hown
        go_wp2_with fail
        refine (size_calls _ _ _ hTq).mono ?_
        rintro e w5 ⟨rfl, rfl⟩
        go_wp2_with fail
        go_ret
        exact ⟨by simp, below_drewN HB.out q⟩

end Go.Proofs.Ytbocdopjikkomaa
