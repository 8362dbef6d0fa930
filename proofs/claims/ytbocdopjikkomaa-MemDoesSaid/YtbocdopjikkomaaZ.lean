/- The walk over the reference's Put. -/
import Derived.Test.YtbocdopjikkomaaY
namespace Go.Proofs.Ytbocdopjikkomaa
open Go.RowKit

def RPutPost (rb : Nat) (ns : List Nd) (k : ByteArray) (s : Int) (d : Bool) (v : ByteArray) (ht : Int) (w : World) (e : Ending) (w' : World) : Prop :=
  e = .returned (.int .i64 (putRes ns k s d v ht)) ∧ (∀ b, RTab rb (putL b ns k s d v ht) w') ∧ Only rb [] w w'

theorem rtab_same {rb : Nat} {ns : List Nd} {k : ByteArray} {s : Int} {d : Bool} {v : ByteArray} {ht : Int} {w : World} (h : RTab rb ns w) (hr : putRes ns k s d v ht ≠ 0) (b : Nat) : RTab rb (putL b ns k s d v ht) w := by
  rw [putL, if_neg hr]
  exact h

/-- Behind region 12: the entries' row is laid, the heights' row is still on its way. -/
def RMid (rb B N : Nat) (A C : List Nd) (xs : List Value) (ht : Int) (ha : Option Addr) (hc : Nat) (hv : Value) (w w' : World) : Prop :=
  ∃ lv, Blk w' rb 31 #[lv, .slice ha N hc] ∧ w'.ownsRow B 34 4 lv (A.length + 1 + C.length) (entsC A ++ xs ++ entsC C) ∧
    w'.ownsRow B 3 1 hv (A.length + 1) (hs A ++ [.int .i64 ht]) ∧ Only rb [] w w' ∧ B ≤ w'.heap.size

theorem src_none {w : World} {ao : Option Addr} {n : Nat} {cells : List Value} (h : Src w ao 0 0 []) (hn : n = 0) (hc : cells = []) : Src w ao 0 n cells := by
  subst hn hc
  exact h

theorem grown_set (w : World) (p : Addr) (u : Value) : w.grownBy (w.setCell p u) (some p.block) :=
  ⟨rfl, rfl, rfl, by simp, fun k _ hk => Below.heap_setCell w p u k (fun e => hk (by rw [e]))⟩

theorem own_block_ge {w : World} {base n : Nat} {e : TypeId} {size : Nat} {v : Value} {cells : List Value} (h : w.ownsRow base e size v n cells) {g : Nat} (hg : g < base) : v.ownBlock = none ∨ v.ownBlock ≠ some g := by
  rcases h.2 with ⟨rfl, _⟩ | ⟨g', cap, cur, rfl, hb, _⟩
  · exact .inl rfl
  · refine .inr fun he => ?_
    have : g' = g := by simpa [Value.ownBlock] using he
    omega

theorem own_block_ne {w : World} {base n : Nat} {e : TypeId} {size : Nat} {v : Value} {cells : List Value} (h : w.ownsRow base e size v n cells) {g : Nat} (hg : g < base) : some g ≠ v.ownBlock := by
  rcases own_block_ge h hg with e | e
  · rw [e]; simp
  · exact fun h => e h.symm

theorem Only.grown {tb : Nat} {w w1 w' : World} {row : Option Nat} (h : Only tb [] w w1) (hg : w1.grownBy w' row) (hr : ∀ k, row = some k → w.heap.size ≤ k) : Only tb [] w w' :=
  ⟨hg.os.trans h.os, hg.tape.trans h.tape, hg.output.trans h.output, Nat.le_trans h.size hg.size, fun k h1 h2 h3 => (hg.block k (Nat.lt_of_lt_of_le h1 h.size) (fun e => by have := hr k e.symm; omega)).trans (h.block k h1 h2 h3)⟩

theorem row_kept {w w' : World} {base e size n : Nat} {v : Value} {xs : List Value} {row : Option Nat} (h : w.ownsRow base e size v n xs) (hg : w.grownBy w' row) (hne : v.ownBlock = none ∨ v.ownBlock ≠ row) : w'.ownsRow base e size v n xs := h.kept hg hne

/-- The table with its two new rows. -/
theorem rtab_new {rb b : Nat} {A C : List Nd} {k : ByteArray} {s : Int} {d : Bool} {v : ByteArray} {ht : Int} {B : Nat} {w : World} {lv hv x : Value} (h1 : 1 ≤ ht) (hB : rb < B)
    (hL : w.ownsRow B 34 4 lv (A.length + 1 + C.length) (entsC A ++ [.string k, .int .u64 s, .bool d, .string v] ++ entsC C)) (hH : w.ownsRow B 3 1 hv (A.length + 1 + C.length) (hs A ++ [.int .i64 ht] ++ hs C))
    (hb : Blk w rb 31 #[lv, x]) : RTab rb (A ++ ⟨b, k, s, d, v, ht.toNat⟩ :: C) (w.setCell ⟨rb, 1, none⟩ hv) := by
  obtain ⟨la, lc, rfl⟩ := own_slice hL
  obtain ⟨ha, hc, rfl⟩ := own_slice hH
  have e : (A ++ (⟨b, k, s, d, v, ht.toNat⟩ : Nd) :: C).length = A.length + 1 + C.length := by simp; omega
  have e1 : entsC (A ++ ⟨b, k, s, d, v, ht.toNat⟩ :: C) = entsC A ++ [.string k, .int .u64 s, .bool d, .string v] ++ entsC C := by
    simp [entsC, entC]
  have e2 : hs (A ++ ⟨b, k, s, d, v, ht.toNat⟩ :: C) = hs A ++ [.int .i64 ht] ++ hs C := by
    have : ((ht.toNat : Nat) : Int) = ht := by omega
    simp [hs, this]
  have hO : Only rb [] w (w.setCell ⟨rb, 1, none⟩ (.slice ha (A.length + 1 + C.length) hc)) := (Only.of_below (Below.refl _ _)).setCell (p := ⟨rb, 1, none⟩) (.inl rfl) _
  refine ⟨la, lc, ha, hc, ?_, ?_, ?_, ?_, ?_⟩
  · rw [e]
    simpa using hb.set 1 (.slice ha (A.length + 1 + C.length) hc)
  · rw [e, e1]
    exact (Src.own hL).only hO (fun b off he => by have := own_ge hL he; omega)
  · rw [e, e2]
    exact (Src.own hH).only hO (fun b off he => by have := own_ge hH he; omega)
  · intro b off he
    obtain ⟨cs, hcs⟩ := own_blk hL he
    have := own_ge hL he
    exact ⟨cs, hcs.far (by simp; omega) _⟩
  · intro b off he
    obtain ⟨cs, hcs⟩ := own_blk hH he
    have := own_ge hH he
    exact ⟨cs, hcs.far (by simp; omega) _⟩

set_option maxRecDepth 100000 in
set_option maxHeartbeats 4000000 in
theorem rput_calls (rb : Nat) (ns : List Nd) (k : ByteArray) (s : Int) (d : Bool) (v : ByteArray) (ht : Int) (w : World) (h : RTab rb ns w) (hw : Wf ns) (hl : ns.length ≤ 200) :
    Calls Try.prog 14 #[.pointer (some ⟨rb, 0, none⟩), .agg #[.string k, .int .u64 s, .bool d, .string v], .int .i64 ht] w (RPutPost rb ns k s d v ht w) := by
  have H := Lib.hid h
  have Hw := Lib.hid hw
  have hrlt := h.lt
  clear h hw
  by_cases hm : mayB k s d v = false
  · have Hr := Lib.hid (show putRes ns k s d v ht = 2 by rw [putRes, if_pos hm])
    have Hm := Lib.hid hm
    clear hm
    go_enter Try.func14, Try.ntmps14
    go_wp2_with fail
    refine (rmay_calls _ _ _ _ _).mono ?_
    rintro e w1 ⟨rfl, hb1⟩
    rw [Hm.out]
    have HB := Lib.hid (((Below.refl w.heap.size w).alloc (Nat.le_refl _) (.cells #[.string k, .int .u64 s, .bool d, .string v] 34)).trans (hb1.mono (by simp)))
    clear hb1
    go_wp2_with fail
    go_ret
    exact ⟨by rw [Hr.out]; rfl, fun b => rtab_same (H.out.below HB.out) (by rw [Hr.out]; decide) b, Only.of_below HB.out⟩
  · have hm' : mayB k s d v = true := by simpa using hm
    have Hm := Lib.hid hm'
    clear hm hm'
    by_cases hh : ht < 1 ∨ 8 < ht
    · have Hr := Lib.hid (show putRes ns k s d v ht = 1 by rw [putRes, if_neg (by rw [Hm.out]; decide), if_pos hh])
      rcases hh with hh | hh
      · go_enter Try.func14, Try.ntmps14
        go_wp2_with fail
        refine (rmay_calls _ _ _ _ _).mono ?_
        rintro e w1 ⟨rfl, hb1⟩
        rw [Hm.out]
        have HB := Lib.hid (((Below.refl w.heap.size w).alloc (Nat.le_refl _) (.cells #[.string k, .int .u64 s, .bool d, .string v] 34)).trans (hb1.mono (by simp)))
        clear hb1
        go_wp2_with fail
        go_ret
        exact ⟨by rw [Hr.out]; rfl, fun b => rtab_same (H.out.below HB.out) (by rw [Hr.out]; decide) b, Only.of_below HB.out⟩
      · go_enter Try.func14, Try.ntmps14
        go_wp2_with fail
        refine (rmay_calls _ _ _ _ _).mono ?_
        rintro e w1 ⟨rfl, hb1⟩
        rw [Hm.out]
        have HB := Lib.hid (((Below.refl w.heap.size w).alloc (Nat.le_refl _) (.cells #[.string k, .int .u64 s, .bool d, .string v] 34)).trans (hb1.mono (by simp)))
        clear hb1
        have hh' : ¬ ht < 1 := by omega
        go_wp2_with fail
        go_ret
        exact ⟨by rw [Hr.out]; rfl, fun b => rtab_same (H.out.below HB.out) (by rw [Hr.out]; decide) b, Only.of_below HB.out⟩
    · have hh1 : ¬ ht < 1 := by omega
      have hh2 : ¬ 8 < ht := by omega
      have Hr := Lib.hid (show putRes ns k s d v ht = if twiceB k s (postOf k s ns) = true then 11 else 0 by rw [putRes, if_neg (by rw [Hm.out]; decide), if_neg hh])
      clear hh
      have Hpl := Lib.hid (aheads_pre Hw.out k s)
      have hpp := pre_post k s ns
      have HL := Lib.hid (show ∀ b, putRes ns k s d v ht = 0 → putL b ns k s d v ht = preOf k s ns ++ ⟨b, k, s, d, v, ht.toNat⟩ :: postOf k s ns by intro b hz; rw [putL, if_pos hz])
      generalize hA : preOf k s ns = A at hpp Hpl HL
      generalize hC : postOf k s ns = C at hpp Hr HL
      clear hA hC
      have hns : ns.length = A.length + C.length := by rw [← hpp, List.length_append]
      have hN : A.length + C.length ≤ 200 := by omega
      have Hns := Lib.hid hns
      have Hpp := Lib.hid hpp
      clear hns hpp
      obtain ⟨la, lc, ha, hc, hB, hL, hH, hla, hha⟩ := H.out
      have hcapL := hL.le
      have hcapH := hH.le
      have hAN : A.length ≤ ns.length := by have := Hns.out; omega
      have HSL := Lib.hid hL
      have HSH := Lib.hid hH
      have Hha := Lib.hid (show ∀ b off, ha = some ⟨b, off, none⟩ → b ≠ rb from fun b off he => by obtain ⟨cs, hcs⟩ := hha b off he; exact hcs.ne hB (by decide))
      have HB := Lib.hid hB
      clear hB hL hH hla hha
      go_enter Try.func14, Try.ntmps14
      go_wp2_with fail
      refine (rmay_calls _ _ _ _ _).mono ?_
      rintro e w1 ⟨rfl, hb1⟩
      rw [Hm.out]
      have hX := (Blk.new w 34 #[.string k, .int .u64 s, .bool d, .string v]).below hb1 (by simp)
      have hs1 := hb1.size
      simp at hs1
      have hbw := ((Below.refl w.heap.size w).alloc (Nat.le_refl _) (.cells #[.string k, .int .u64 s, .bool d, .string v] 34)).trans (hb1.mono (by simp))
      have x0 : w1.cell? ⟨w.heap.size, 0, none⟩ = some (.string k) := hX.cell 0
      have x1 : w1.cell? ⟨w.heap.size, 1, none⟩ = some (.int .u64 s) := hX.cell 1
      have x2 : w1.cell? ⟨w.heap.size, 2, none⟩ = some (.bool d) := hX.cell 2
      have x3 : w1.cell? ⟨w.heap.size, 3, none⟩ = some (.string v) := hX.cell 3
      have HX := Lib.hid hX
      have Hbw := Lib.hid hbw
      have hlt1 : w.heap.size < w1.heap.size := by omega
      clear hb1 hX hbw
      go_wp2_with fail
      refine (place_calls rb ns _ _ _ (H.out.below Hbw.out) hl).mono ?_
      rintro e w2 ⟨rfl, q, rfl⟩
      rw [Hpl.out]
      have c0 : w1.cell? ⟨rb, 0, none⟩ = some (.slice la ns.length lc) := (HB.out.below Hbw.out hrlt).cell 0
      have c1 : w1.cell? ⟨rb, 1, none⟩ = some (.slice ha ns.length hc) := (HB.out.below Hbw.out hrlt).cell 1
      go_upto_region 6 with fail
      go_cut [57] (fun r wr => r = .bool (twiceB k s C) ∧ ∃ q, wr = w1.drewN q)
      case first =>
        by_cases hCl : C.length = 0
        · have hCn : C = [] := List.eq_nil_of_length_eq_zero hCl
          have HC := Lib.hid hCn
          have hd : decide ((A.length : Int) < (ns.length : Int)) = false := decide_eq_false (by have := Hns.out; omega)
          have hdn : decide (A.length < ns.length) = false := decide_eq_false (by have := Hns.out; omega)
          clear hCn
          go_wp2_with fail
          go_quiet (fail)
          go_wp2_with fail
          go_meet
          case rel => exact ⟨by rw [HC.out]; rfl, _, World.drewN_drewN _ _ _⟩
        · obtain ⟨m, C', hmC⟩ : ∃ m C', C = m :: C' := by
            cases C with
            | nil => exact absurd rfl hCl
            | cons m C' => exact ⟨m, C', rfl⟩
          have hat : ns[A.length]? = some m := by rw [← Hpp.out, hmC, List.getElem?_append_right (Nat.le_refl _), Nat.sub_self]; rfl
          obtain ⟨b, off, rfl, hblt, q0⟩ := HSL.out.ent hat
          obtain ⟨e0, e1, _, _⟩ := q0.below Hbw.out hblt
          have HmC := Lib.hid hmC
          have hlti : (A.length : Int) < (ns.length : Int) := by have := Hns.out; omega
          have hd : decide ((A.length : Int) < (ns.length : Int)) = true := decide_eq_true hlti
          have hltn : A.length < ns.length := by have := Hns.out; omega
          clear hat q0 hmC
          by_cases hkk : m.k.toList = k.toList
          · have hkb : (m.k.toList == k.toList) = true := by simp [hkk]
            by_cases hss : m.s = s
            · have Htw := Lib.hid (show twiceB k s C = true by rw [HmC.out]; simp [twiceB, hkk, hss])
              clear hkk
              subst hss
              go_wp2_with fail
              go_quiet (fail)
              go_wp2_with fail
              go_meet
              case rel => exact ⟨by rw [Htw.out], _, World.drewN_drewN _ _ _⟩
            · have hsb : (m.s == s) = false := by simpa using hss
              have Hss := Lib.hid hss
              clear hkk hss
              go_wp2_with fail
              go_quiet (fail)
              go_wp2_with fail
              go_meet
              case rel => exact ⟨by rw [HmC.out]; simp [twiceB, hsb], _, World.drewN_drewN _ _ _⟩
          · have hkb : (m.k.toList == k.toList) = false := by simpa using hkk
            clear hkk
            go_wp2_with fail
            go_quiet (fail)
            go_wp2_with fail
            go_meet
            case rel => exact ⟨by rw [HmC.out]; simp [twiceB, hkb], _, World.drewN_drewN _ _ _⟩
      case rest =>
        obtain ⟨rfl, q', rfl⟩ := hcut
        by_cases htw : twiceB k s C = true
        · have Htw := Lib.hid (show putRes ns k s d v ht = 11 by rw [Hr.out, if_pos htw])
          rw [htw]
          clear htw x0 x1 x2 x3 c0 c1
          go_wp2_with fail
          go_ret
          exact ⟨by rw [Htw.out]; rfl, fun b => rtab_same (H.out.below (below_drewN Hbw.out _)) (by rw [Htw.out]; decide) b, Only.of_below (below_drewN Hbw.out _)⟩
        have htw' : twiceB k s C = false := by simpa using htw
        rw [htw']
        clear htw'
        have Hr0 := Lib.hid (show putRes ns k s d v ht = 0 by rw [Hr.out, if_neg htw])
        clear htw
        have hbW := below_drewN Hbw.out q'
        have hXW := HX.out.drewN q'
        generalize w1.drewN q' = W at hbW hXW
        clear x0 x1 x2 x3 c0 c1 hs1 hlt1 HX Hbw
        have hWs := hXW.lt
        have hBW := HB.out.below hbW hrlt
        have c0 : W.cell? ⟨rb, 0, none⟩ = some (.slice la ns.length lc) := hBW.cell 0
        have c1 : W.cell? ⟨rb, 1, none⟩ = some (.slice ha ns.length hc) := hBW.cell 1
        have hSL1 : Src w la lc A.length (entsC A) := by
          have := HSL.out.take (k := A.length) (by rw [Hns.out]; omega) (A.length * 4)
          rwa [← Hpp.out, (entsC_split A C).1] at this
        have hSH1 : Src w ha hc A.length (hs A) := by
          have := HSH.out.take (k := A.length) (by rw [Hns.out]; omega) A.length
          rwa [← Hpp.out, (hs_split A C).1] at this
        have HbW := Lib.hid hbW
        have HXW := Lib.hid hXW
        have hrW : rb < W.heap.size := by omega
        have hki : (A.length : Int) ≤ (lc : Int) := by omega
        have hkih : (A.length : Int) ≤ (hc : Int) := by omega
        have hkn : A.length ≤ lc := by omega
        have hknh : A.length ≤ hc := by omega
        have HBW := Lib.hid hBW
        have HSL1 := Lib.hid hSL1
        have HSH1 := Lib.hid hSH1
        clear hbW hXW hBW hSL1 hSH1
        obtain ⟨i0, hi, hz0, hz1, hz2⟩ := info_parts Try.info34
        go_wp2_with (at_builtin; refine append_src _ rfl _ _ 28 rfl (w.heap.size + 1) 34 i0 _ 4 48 Try.underlying28 hi hz0 hz1 hz2 rfl (by decide) _ 0 [] rfl (World.ownsRow_lit W #[] 0 (by omega) (by decide) rfl) la A.length lc (entsC A) rfl (entsC_len A) ((HSL1.out.below HbW.out).below ((Below.refl _ _).alloc (Nat.le_refl _) _)) (entsC_one A) ?c3 ?c4 ?c5 ?_)
        case c3 => unfold maxLen; omega
        case c4 => omega
        case c5 => simp; omega
        intro lv w3 hown3 hg3
        have hown3' : w3.ownsRow (w.heap.size + 1) 34 4 lv A.length (entsC A) := by simpa using hown3
        clear hown3
        have hb3 : Below (w.heap.size + 1) W w3 := ((Below.refl _ _).alloc (by omega) _).grown hg3 (by simp; omega) (fun k hk => by simp only [Value.ownBlock, Option.some.injEq] at hk; omega)
        have hs3 := hb3.size
        have hrw3 : rb < w3.heap.size := by omega
        have c1 : w3.cell? ⟨rb, 1, none⟩ = some (.slice ha ns.length hc) := (HBW.out.below hb3 (by omega)).cell 1
        have hSH3 : Src w3 ha hc A.length (hs A) := HSH1.out.below (HbW.out.trans (hb3.mono (by omega)))
        clear hg3 c0 hi hz0 hz1 hz2 hki hkn
        obtain ⟨i1, hi, hz0, hz1, hz2⟩ := info_parts Try.info3
        go_wp2_with (at_builtin; refine append_src _ rfl _ _ 29 rfl (w.heap.size + 1) 3 i1 _ 1 8 Try.underlying29 hi hz0 hz1 hz2 rfl (by decide) _ 0 [] rfl (World.ownsRow_lit w3 #[] 0 (by omega) (by decide) rfl) ha A.length hc (hs A) rfl (by rw [hs_len, Nat.mul_one]) (hSH3.below ((Below.refl _ _).alloc (Nat.le_refl _) _)) (hs_one A) ?c3 ?c4 ?c5 ?_)
        case c3 => unfold maxLen; omega
        case c4 => omega
        case c5 => simp; omega
        intro hv w4 hown4 hg4
        have hownL4 : w4.ownsRow (w.heap.size + 1) 34 4 lv A.length (entsC A) := (hown3'.alloc _).kept hg4 (own_two (hown3'.alloc _) (World.ownsRow_lit (base := w.heap.size + 1) (e := 3) (size := 1) w3 #[] 0 (by omega) (by decide) rfl) (by decide))
        have hownH4 : w4.ownsRow (w.heap.size + 1) 3 1 hv A.length (hs A) := by simpa using hown4
        have hb4 : Below (w.heap.size + 1) W w4 := (hb3.alloc (by omega) _).grown hg4 (by simp; omega) (fun k hk => by simp only [Value.ownBlock, Option.some.injEq] at hk; omega)
        have hs4 := hb4.size
        have hX4 := HXW.out.below hb4 (by omega)
        have x0 : w4.cell? ⟨w.heap.size, 0, none⟩ = some (.string k) := hX4.cell 0
        have x1 : w4.cell? ⟨w.heap.size, 1, none⟩ = some (.int .u64 s) := hX4.cell 1
        have x2 : w4.cell? ⟨w.heap.size, 2, none⟩ = some (.bool d) := hX4.cell 2
        have x3 : w4.cell? ⟨w.heap.size, 3, none⟩ = some (.string v) := hX4.cell 3
        have hws4 : w.heap.size < w4.heap.size := by omega
        clear hown4 hg4 hown3' c1 hSH3 hX4 hi hz0 hz1 hz2 hkih hknh hrw3 hs3 hb3
        obtain ⟨i2, hi, hz0, hz1, hz2⟩ := info_parts Try.info34
        go_wp2_with (at_builtin; refine wpList_append_own _ rfl _ _ 28 rfl (w.heap.size + 1) 34 i2 _ 4 48 Try.underlying28 hi hz0 hz1 hz2 rfl (by decide) _ _ _ rfl (hownL4.alloc _) ⟨w4.heap.size, 0, none⟩ 1 1 [.string k, .int .u64 s, .bool d, .string v] rfl rfl ?c1 ?c2 ?c3 ?c4 ?c5 ?_)
        case c1 => exact cells_new w4 34 [.string k, .int .u64 s, .bool d, .string v]
        case c2 => exact entC_one ⟨0, k, s, d, v, 0⟩
        case c3 => unfold maxLen; omega
        case c4 => omega
        case c5 => simp; omega
        intro lv5 w5 hownL5 hg5 _
        have hownH5 : w5.ownsRow (w.heap.size + 1) 3 1 hv A.length (hs A) := (hownH4.alloc _).kept hg5 (own_two hownH4 hownL4 (by decide))
        have hb5 : Below (w.heap.size + 1) W w5 := (hb4.alloc (by omega) _).grown hg5 (by simp; omega) (fun k hk => (hownL4.lt k hk).1)
        have hs5 := hb5.size
        clear hownL4 hownH4 hg5 x0 x1 x2 x3 hi hz0 hz1 hz2 hws4 hs4 hb4
        obtain ⟨i3, hi, hz0, hz1, hz2⟩ := info_parts Try.info3
        go_wp2_with (at_builtin; refine wpList_append_own _ rfl _ _ 29 rfl (w.heap.size + 1) 3 i3 _ 1 8 Try.underlying29 hi hz0 hz1 hz2 rfl (by decide) _ _ _ rfl (hownH5.alloc _) ⟨w5.heap.size, 0, none⟩ 1 1 [.int .i64 ht] rfl rfl ?c1 ?c2 ?c3 ?c4 ?c5 ?_)
        case c1 => exact cells_new w5 3 [.int .i64 ht]
        case c2 => intro u hu; simp only [List.mem_singleton] at hu; subst hu; rfl
        case c3 => unfold maxLen; omega
        case c4 => omega
        case c5 => simp; omega
        intro hv6 w6 hownH6 hg6 _
        have hownL6 : w6.ownsRow (w.heap.size + 1) 34 4 lv5 (A.length + 1) (entsC A ++ [.string k, .int .u64 s, .bool d, .string v]) := (hownL5.alloc _).kept hg6 (own_two hownL5 hownH5 (by decide))
        have hb6 : Below (w.heap.size + 1) W w6 := (hb5.alloc (by omega) _).grown hg6 (by simp; omega) (fun k hk => (hownH5.lt k hk).1)
        have hs6 := hb6.size
        clear hownL5 hownH5 hg6 hi hz0 hz1 hz2 hs5 hb5
        have hSL6 : Src w6 (la.map fun x => x.add (A.length * 4)) (lc - A.length) (ns.length - A.length) (entsC C) := by
          have := (HSL.out.below (HbW.out.trans (hb6.mono (by omega)))).drop (k := A.length) (by omega) (A.length * 4)
          rwa [← Hpp.out, (entsC_split A C).2, Hpp.out] at this
        have hSE6 : Src w6 la 0 0 [] := (HSL.out.below (HbW.out.trans (hb6.mono (by omega)))).empty
        have HSL6 := Lib.hid hSL6
        have HSE6 := Lib.hid hSE6
        have hB6 := HBW.out.below hb6 (by omega)
        have hCl : ns.length - A.length = C.length := by have := Hns.out; omega
        have HCl := Lib.hid hCl
        have c0 : w6.cell? ⟨rb, 0, none⟩ = some (.slice la ns.length lc) := hB6.cell 0
        have HB6 := Lib.hid hB6
        have hr6 : rb < w6.heap.size := by omega
        have hkn : A.length ≤ lc := by omega
        have hki : (A.length : Int) ≤ (lc : Int) := by omega
        have hni : (A.length : Int) ≤ (ns.length : Int) := by omega
        have hni2 : (ns.length : Int) ≤ (lc : Int) := by omega
        clear c1 hSL6 hSE6 hCl hB6
        go_upto_region 12 with fail
        go_cut [6] (fun r wr => r = .int .i64 0 ∧ RMid rb (w.heap.size + 1) ns.length A C [.string k, .int .u64 s, .bool d, .string v] ht ha hc hv6 w wr)
        case first =>
          obtain ⟨i4, hi, hz0, hz1, hz2⟩ := info_parts Try.info34
          by_cases hck : lc = A.length
          · go_wp2_with (at_builtin; refine append_src _ rfl _ _ 28 rfl (w.heap.size + 1) 34 i4 _ 4 48 Try.underlying28 hi hz0 hz1 hz2 rfl (by decide) _ _ _ rfl hownL6 _ _ _ (entsC C) rfl ?c0 ?c1 (entsC_one C) ?c3 ?c4 ?c5 ?_)
            case c0 => rw [HCl.out]; exact entsC_len C
            case c1 => exact src_none HSE6.out (by omega) (by rw [List.eq_nil_of_length_eq_zero (show C.length = 0 by rw [← HCl.out]; omega)]; rfl)
            case c3 => unfold maxLen; omega
            case c4 => omega
            case c5 => omega
            intro lv7 w7 hownL7 hg7
            rw [HCl.out] at hownL7
            obtain ⟨lao, lcap, rfl⟩ := own_slice hownL7
            have hownH7 := hownH6.kept hg7 (own_two hownH6 hownL6 (by decide))
            have hB7 := HB6.out.grown hg7 (own_block_ne hownL6 (by omega))
            have hO7 : Only rb [] w w7 := (Only.of_below (HbW.out.trans (hb6.mono (by omega)))).grown hg7 (fun k hk => by have := (hownL6.lt k hk).1; omega)
            have hs7 := hg7.size
            have hf7 := hB7.frozen 0
            have hr7 : rb < w7.heap.size := by omega
            have c7 : w7.cell? ⟨rb, 0, none⟩ = some (.slice la ns.length lc) := hB7.cell 0
            have HR := Lib.hid (And.intro hownL7 (And.intro hownH7 (And.intro hB7 hO7)))
            clear hg7 hownL7 hownH7 hB7 hO7 hownL6 hownH6 c0 hi hz0 hz1 hz2 hck
            go_wp2_with fail
            go_meet
            case rel =>
              obtain ⟨hL, hH, hB, hO⟩ := HR.out
              refine ⟨rfl, _, by simpa using hB.set 0 _, by simpa using hL.kept (grown_set _ ⟨rb, 0, none⟩ _) (own_block_ge (g := rb) hL (by omega)), hH.kept (grown_set _ ⟨rb, 0, none⟩ _) (own_block_ge (g := rb) hH (by omega)), hO.setCell (.inl rfl) _, by simp; omega⟩
          · go_wp2_with (at_builtin; refine append_src _ rfl _ _ 28 rfl (w.heap.size + 1) 34 i4 _ 4 48 Try.underlying28 hi hz0 hz1 hz2 rfl (by decide) _ _ _ rfl hownL6 _ _ _ (entsC C) rfl ?c0 ?c1 (entsC_one C) ?c3 ?c4 ?c5 ?_)
            case c0 => rw [HCl.out]; exact entsC_len C
            case c1 => exact HSL6.out
            case c3 => unfold maxLen; omega
            case c4 => omega
            case c5 => omega
            intro lv7 w7 hownL7 hg7
            rw [HCl.out] at hownL7
            obtain ⟨lao, lcap, rfl⟩ := own_slice hownL7
            have hownH7 := hownH6.kept hg7 (own_two hownH6 hownL6 (by decide))
            have hB7 := HB6.out.grown hg7 (own_block_ne hownL6 (by omega))
            have hO7 : Only rb [] w w7 := (Only.of_below (HbW.out.trans (hb6.mono (by omega)))).grown hg7 (fun k hk => by have := (hownL6.lt k hk).1; omega)
            have hs7 := hg7.size
            have hf7 := hB7.frozen 0
            have hr7 : rb < w7.heap.size := by omega
            have c7 : w7.cell? ⟨rb, 0, none⟩ = some (.slice la ns.length lc) := hB7.cell 0
            have HR := Lib.hid (And.intro hownL7 (And.intro hownH7 (And.intro hB7 hO7)))
            clear hg7 hownL7 hownH7 hB7 hO7 hownL6 hownH6 c0 hi hz0 hz1 hz2 hck
            go_wp2_with fail
            go_meet
            case rel =>
              obtain ⟨hL, hH, hB, hO⟩ := HR.out
              refine ⟨rfl, _, by simpa using hB.set 0 _, by simpa using hL.kept (grown_set _ ⟨rb, 0, none⟩ _) (own_block_ge (g := rb) hL (by omega)), hH.kept (grown_set _ ⟨rb, 0, none⟩ _) (own_block_ge (g := rb) hH (by omega)), hO.setCell (.inl rfl) _, by simp; omega⟩
        case rest =>
          obtain ⟨rfl, lv, hBm, hownL, hownH, hO, hBs⟩ := hcut
          have hSH : Src wc ha hc ns.length (hs ns) := HSH.out.only hO Hha.out
          have hSHd : Src wc (ha.map fun x => x.add A.length) (hc - A.length) (ns.length - A.length) (hs C) := by
            have := hSH.drop (k := A.length) (by omega) A.length
            rwa [← Hpp.out, (hs_split A C).2, Hpp.out] at this
          have HSHd := Lib.hid hSHd
          have HSE := Lib.hid hSH.empty
          have c1 : wc.cell? ⟨rb, 1, none⟩ = some (.slice ha ns.length hc) := hBm.cell 1
          have HBm := Lib.hid hBm
          have HO := Lib.hid hO
          have hknh : A.length ≤ hc := by omega
          have hkih : (A.length : Int) ≤ (hc : Int) := by omega
          have hnih2 : (ns.length : Int) ≤ (hc : Int) := by omega
          clear hBm hO hSH hSHd c0
          obtain ⟨i5, hi, hz0, hz1, hz2⟩ := info_parts Try.info3
          by_cases hck : hc = A.length
          · go_wp2_with (at_builtin; refine append_src _ rfl _ _ 29 rfl (w.heap.size + 1) 3 i5 _ 1 8 Try.underlying29 hi hz0 hz1 hz2 rfl (by decide) _ _ _ rfl hownH _ _ _ (hs C) rfl ?c0 ?c1 (hs_one C) ?c3 ?c4 ?c5 ?_)
            case c0 => rw [HCl.out, Nat.mul_one]; exact hs_len C
            case c1 => exact src_none HSE.out (by omega) (by rw [List.eq_nil_of_length_eq_zero (show C.length = 0 by rw [← HCl.out]; omega)]; rfl)
            case c3 => unfold maxLen; omega
            case c4 => omega
            case c5 => omega
            intro hv8 w8 hownH8 hg8
            rw [HCl.out] at hownH8
            obtain ⟨hao, hcap, rfl⟩ := own_slice hownH8
            have hownL8 := hownL.kept hg8 (own_two hownL hownH (by decide))
            have hB8 := HBm.out.grown hg8 (own_block_ne hownH (by omega))
            have hO8 : Only rb [] w w8 := HO.out.grown hg8 (fun k hk => by have := (hownH.lt k hk).1; omega)
            have hs8 := hg8.size
            have hf8 := hB8.frozen 1
            have hr8 : rb < w8.heap.size := by omega
            have c8 : w8.cell? ⟨rb, 1, none⟩ = some (.slice ha ns.length hc) := hB8.cell 1
            have HR := Lib.hid (And.intro hownL8 (And.intro hownH8 (And.intro hB8 hO8)))
            clear hg8 hownL8 hownH8 hB8 hO8 hownL hownH c1 hi hz0 hz1 hz2 hck
            go_wp2_with fail
            go_ret
            obtain ⟨hL, hH, hB, hO⟩ := HR.out
            refine ⟨by rw [Hr0.out]; rfl, fun b => ?_, hO.setCell (.inl rfl) _⟩
            rw [HL.out b Hr0.out]
            exact rtab_new (by omega) (by omega) hL (by simpa using hH) hB
          · go_wp2_with (at_builtin; refine append_src _ rfl _ _ 29 rfl (w.heap.size + 1) 3 i5 _ 1 8 Try.underlying29 hi hz0 hz1 hz2 rfl (by decide) _ _ _ rfl hownH _ _ _ (hs C) rfl ?c0 ?c1 (hs_one C) ?c3 ?c4 ?c5 ?_)
            case c0 => rw [HCl.out, Nat.mul_one]; exact hs_len C
            case c1 => exact HSHd.out
            case c3 => unfold maxLen; omega
            case c4 => omega
            case c5 => omega
            intro hv8 w8 hownH8 hg8
            rw [HCl.out] at hownH8
            obtain ⟨hao, hcap, rfl⟩ := own_slice hownH8
            have hownL8 := hownL.kept hg8 (own_two hownL hownH (by decide))
            have hB8 := HBm.out.grown hg8 (own_block_ne hownH (by omega))
            have hO8 : Only rb [] w w8 := HO.out.grown hg8 (fun k hk => by have := (hownH.lt k hk).1; omega)
            have hs8 := hg8.size
            have hf8 := hB8.frozen 1
            have hr8 : rb < w8.heap.size := by omega
            have c8 : w8.cell? ⟨rb, 1, none⟩ = some (.slice ha ns.length hc) := hB8.cell 1
            have HR := Lib.hid (And.intro hownL8 (And.intro hownH8 (And.intro hB8 hO8)))
            clear hg8 hownL8 hownH8 hB8 hO8 hownL hownH c1 hi hz0 hz1 hz2 hck
            go_wp2_with fail
            go_ret
            obtain ⟨hL, hH, hB, hO⟩ := HR.out
            refine ⟨by rw [Hr0.out]; rfl, fun b => ?_, hO.setCell (.inl rfl) _⟩
            rw [HL.out b Hr0.out]
            exact rtab_new (by omega) (by omega) hL (by simpa using hH) hB

end Go.Proofs.Ytbocdopjikkomaa
