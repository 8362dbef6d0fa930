/- The walk over HistOrder. -/
import Derived.Test.YtghmjconljdapaaP2
import Derived.Test.YtghmjconljdapaaS8
namespace Go.Proofs.Ytghmjconljdapaa
open Go.RowKit

theorem os_facts {l : List Tx} (hm : mayL l = true) {os : List Int} (hp : os.Perm (commTo l l.length)) (hs : os.Pairwise (fun i j => kap l i ≤ kap l j)) {n : Nat} {K : Int} (hn : os[n]? = some K) :
    ∃ x, l[K.toNat]? = some x ∧ 0 ≤ K ∧ K < l.length ∧ kap l K = x.t ∧ 0 < x.t ∧ K ∉ os.take n ∧ ∀ P, 0 < n → os[n - 1]? = some P → kap l P < x.t := by
  have hlt := (List.getElem?_eq_some_iff.1 hn).1
  have hKe := (List.getElem?_eq_some_iff.1 hn).2
  have hK := List.mem_of_getElem? hn
  obtain ⟨h1, h2, h3⟩ := comm_mem.1 (hp.mem_iff.1 hK)
  have hx : l[K.toNat]? = some (l[K.toNat]'(by omega)) := by simp
  have hk := kap_of hx
  have hnod : os.Nodup := by
    rw [hp.nodup_iff]
    unfold commTo
    rw [List.nodup_iff_pairwise_ne, List.pairwise_map]
    refine List.Pairwise.imp ?_ (List.nodup_iff_pairwise_ne.1 (List.nodup_range.filter _))
    intro a b hab e
    exact hab (by omega)
  have hne : ∀ i, i < n → ∀ P, os[i]? = some P → P ≠ K := by
    intro i hi P hP e
    subst e
    have hi2 := (List.getElem?_eq_some_iff.1 hP)
    exact List.pairwise_iff_getElem.1 (List.nodup_iff_pairwise_ne.1 hnod) i n hi2.1 hlt hi (by rw [hi2.2, hKe])
  refine ⟨_, hx, h1, h2, hk, by rw [← hk]; exact h3, fun hmem => ?_, fun P h0 hP => ?_⟩
  · rw [List.mem_take_iff_getElem] at hmem
    obtain ⟨i, hi, he⟩ := hmem
    exact hne i (by omega) _ (by rw [List.getElem?_eq_getElem (by omega), he]) rfl
  · have hPi := List.getElem?_eq_some_iff.1 hP
    have hle : kap l P ≤ kap l K := by
      have := List.pairwise_iff_getElem.1 hs (n - 1) n hPi.1 hlt (by omega)
      rwa [hPi.2, hKe] at this
    obtain ⟨p1, p2, p3⟩ := comm_mem.1 (hp.mem_iff.1 (List.mem_of_getElem? hP))
    have hy : l[P.toNat]? = some (l[P.toNat]'(by omega)) := by simp
    have hpk := kap_of hy
    have hPK := hne (n - 1) (by omega) P hP
    have hneq : kap l P ≠ kap l K := by
      intro e
      refine times_apart ((mayL_iff l).1 hm).2 hy hx (by omega) (a := kap l P) ?_ ?_
      · rw [hpk]; exact commit_mem (by rw [← hpk]; exact p3)
      · rw [e, hk]; exact commit_mem (by rw [← hk]; exact h3)
    rw [hk] at hle hneq
    omega

theorem lastO_snoc {l : List Tx} {key : ByteArray} {os : List Int} {n : Nat} {K : Int} (h : os[n]? = some K) : lastO l key (os.take (n + 1)) = txStep key (lastO l key (os.take n)) (atI l K) := by
  unfold lastO
  rw [take_snoc' h, List.foldl_append]
  rfl

def OrdRel (xs : List Tx) (key : ByteArray) (os : List Int) (w0 : World) (mb : Nat) (g : Nat) (v u i : Value) (wr : World) : Prop :=
  ∃ (n : Nat) (p : ByteArray × Bool), i = .int .i64 n ∧ n ≤ os.length ∧ g = os.length - n ∧ v = .string p.1 ∧ u = .bool p.2 ∧ lastO xs key (os.take n) = p ∧
    (∃ l, MapIs (fun s : Int => Value.int .i64 s) wr mb l ∧ SetOf (os.take n) l) ∧ Below w0.heap.size w0 wr

def OrdIn (key : ByteArray) (ws : List Mt) (p0 : ByteArray × Bool) (w0 : World) (g : Nat) (v u i : Value) (wr : World) : Prop :=
  ∃ (n : Nat) (p : ByteArray × Bool), i = .int .i64 n ∧ n ≤ ws.length ∧ g = ws.length - n ∧ v = .string p.1 ∧ u = .bool p.2 ∧ (ws.take n).foldl (wStep key) p0 = p ∧ Below w0.heap.size w0 wr

set_option maxRecDepth 100000 in
set_option maxHeartbeats 8000000 in
theorem order_law_calls (ao : Option Addr) (c : Nat) (xs : List Tx) (key : ByteArray) (w : World) (h : RowOf TxAt w ao xs.length xs) (hn : ∀ x ∈ xs, 0 ≤ x.t) :
    Calls Try.prog 4 #[.slice ao xs.length c, .string key] w fun e w' => e = .returned (.bool true) ∧ Below w.heap.size w w' := by
  have H := Lib.hid h
  have Hn := Lib.hid hn
  clear h hn
  have hmm := @run_makeMap Try.prog
  go_enter Try.func4, Try.ntmps4
  go_wp2_with fail
  refine (awake_calls _).mono ?_
  rintro e w1 ⟨rfl, hb1⟩
  have H1 := Lib.hid (txs_below H.out hb1)
  have Hb1 := Lib.hid hb1
  clear hb1
  go_wp2_with fail
  refine (large_calls _ _ xs _ H1.out).mono ?_
  rintro e w1 ⟨rfl, rfl⟩
  cases hl : largeL xs with
  | true =>
    clear hl
    go_wp2_with fail
    go_ret
    exact ⟨rfl, Hb1.out⟩
  | false =>
    obtain ⟨hsz, h40⟩ := sized_of hl Hn.out
    have HS := Lib.hid hsz
    clear hl hsz
    by_cases hk100 : 100 < (key.size : Int)
    · go_wp2_with fail
      go_ret
      exact ⟨rfl, Hb1.out⟩
    · go_wp2_with fail
      refine (mayL_calls _ _ xs _ H1.out HS.out).mono ?_
      rintro e w2 ⟨rfl, hb2⟩
      have H2 := Lib.hid (txs_below H1.out hb2)
      have Hb2 := Lib.hid (then_ Hb1.out (Nat.le_refl _) hb2)
      clear hb2
      cases hm : mayL xs with
      | false =>
        clear hm
        go_wp2_with fail
        go_ret
        exact ⟨rfl, Hb2.out⟩
      | true =>
        have Hm := Lib.hid hm
        have HO := Lib.hid (sort_any (m := (commTo xs xs.length).length) (by have := comm_len xs xs.length; omega))
        clear hm
        go_wp2_with fail
        refine (order_calls _ _ xs _ H2.out HS.out HO.out).mono ?_
        rintro e w3 ⟨oa, oc, os, rfl, hI, hp, hs, hb3⟩
        have hol : os.length ≤ 40 := by rw [hp.length_eq]; have := comm_len xs xs.length; omega
        have Hp := Lib.hid hp
        have Hs := Lib.hid hs
        have HI := Lib.hid hI
        have Hb3 := Lib.hid (then_ Hb2.out (Nat.le_refl _) hb3)
        have H3 := Lib.hid (txs_below H2.out hb3)
        clear hI hp hs hb3
        go_wp2_with fail
        clear hmm
        go_loopg [7, 8, 35] os.length (fun g v u i wr => OrdRel xs key os w3 w3.heap.size g v u i wr)
        case atStart => exact ⟨0, _, rfl, by omega, by omega, rfl, rfl, rfl, ⟨[], MapIs.made _ _, SetOf.nil⟩, new1 _ _⟩
        case round =>
          obtain ⟨n, p, rfl, hn, rfl, rfl, rfl, hlast, ⟨l, hM, hSt⟩, hb⟩ := hrel
          obtain ⟨w4, hw4⟩ : ∃ w4, w4 = wr := ⟨_, rfl⟩
          subst hw4
          have HM := Lib.hid hM
          have HSt := Lib.hid hSt
          have Hb := Lib.hid hb
          have Hlast := Lib.hid hlast
          clear hM hSt hb hlast
          by_cases hlt : n < os.length
          · obtain ⟨K, hK⟩ : ∃ K, os[n]? = some K := ⟨os[n], by simp⟩
            obtain ⟨x, hx, hK0, hKl, hkap, hxt, hKn, hprev⟩ := os_facts Hm.out Hp.out Hs.out hK
            obtain ⟨k, rfl⟩ : ∃ k : Nat, K = (k : Int) := ⟨K.toNat, by omega⟩
            obtain ⟨ob, rfl, hob, hoat⟩ := HI.out (by omega)
            have o1 : w4.cell? ⟨ob, n, none⟩ = some (.int .i64 k) := by rw [Hb.out.cell (by exact hob)]; exact hoat n _ hK
            have hx' : xs[k]? = some x := by simpa using hx
            have hkl := (List.getElem?_eq_some_iff.1 hx').1
            obtain ⟨b, off, x2, hao, hblt, hx2, e0, e1, ⟨ra, rc, e2, g3⟩, wa, wcap, e4, g5⟩ := H3.out.get hkl
            obtain rfl : x = x2 := Option.some.inj (hx'.symm.trans hx2)
            obtain rfl := hao
            rw [← Hb.out.cell (by exact hblt)] at e0 e1 e2 e4
            have G5 := Lib.hid (mts_below g5 Hb.out)
            have hxw := HS.out.ws x (List.mem_of_getElem? hx')
            have hnod := ((wsB_iff x.ws).1 ((mayB_iff x).1 (((mayL_iff xs).1 Hm.out).1 x (List.mem_of_getElem? hx'))).2.2.2.2).2
            have Hlast2 := Lib.hid (show lastO xs key (os.take (n + 1)) = txStep key p x by rw [lastO_snoc hK, Hlast.out, atI_of hx])
            have Hoat := Lib.hid hoat
            have hlk : ∀ q, (Instr.lookup 38 (.map (some w3.heap.size)) (.int .i64 k) false).run Try.prog (w4.drewN q) = .ok (.bool false) (w4.drewN q) := by
              intro q
              have := (show MapIs (fun s : Int => Value.int .i64 s) (w4.drewN q) w3.heap.size l from HM.out).lookup (int_kind Try.underlying3) Try.underlying38 (z := .bool false) (by kernel_rfl) (k : Int)
              rw [HSt.out (k : Int), if_neg hKn] at this
              exact this
            have hlti : (n : Int) < (os.length : Int) := by omega
            have d1 : decide ((k : Int) < 0) = false := by simp
            have d2 : decide ((xs.length : Int) ≤ (k : Int)) = false := by simp; omega
            have d2' : decide (xs.length ≤ k) = false := by simp; omega
            have d3 : (x.t == 0) = false := by simp; omega
            have hki : (k : Int) < (xs.length : Int) := by omega
            have HK := Lib.hid hK
            have Hx := Lib.hid hx'
            have Hnod := Lib.hid hnod
            have Hprev := Lib.hid hprev
            have Hkap := Lib.hid hkap
            have HKn := Lib.hid hKn
            clear hK hx hx' hK0 hKl hkap hKn hx2 g3 g5 hnod hprev hoat
            go_wp2_with fail
            go_cut [81] (fun v wr => v = .bool false ∧ ∃ q, wr = w4.drewN q)
            case first =>
              by_cases hn0 : n = 0
              · subst hn0
                go_quiet (fail)
                go_wp2_with fail
                go_meet
                case rel => exact ⟨rfl, _, rfl⟩
              · obtain ⟨P, hP⟩ : ∃ P, os[n - 1]? = some P := ⟨os[n - 1]'(by omega), by simp⟩
                obtain ⟨y, hy, hP0, hPl, hykap, hyt, _, _⟩ := os_facts Hm.out Hp.out Hs.out hP
                obtain ⟨j, rfl⟩ : ∃ j : Nat, P = (j : Int) := ⟨P.toNat, by omega⟩
                have hy' : xs[j]? = some y := by simpa using hy
                obtain ⟨b', off', y2, hbo, hblt', hy2, f0, f1, _⟩ := H3.out.get (List.getElem?_eq_some_iff.1 hy').1
                obtain rfl : y = y2 := Option.some.inj (hy'.symm.trans hy2)
                simp only [Option.some.injEq, Addr.mk.injEq, and_true] at hbo
                obtain ⟨rfl, rfl⟩ := hbo
                rw [← Hb.out.cell (by exact hblt')] at f1
                obtain ⟨p1, hp1⟩ : ∃ p1, n - 1 = p1 := ⟨_, rfl⟩
                have o2 : w4.cell? ⟨ob, p1, none⟩ = some (.int .i64 j) := by rw [Hb.out.cell (by exact hob), ← hp1]; exact Hoat.out (n - 1) _ hP
                have wp1 : IntKind.i64.wrap ((n : Int) - 1) = (p1 : Int) := by rw [IntWalk.i64_in _ (by omega)]; omega
                have hp1i : (p1 : Int) < (os.length : Int) := by omega
                have hji : (j : Int) < (xs.length : Int) := by omega
                have d4 : (0 : Int) < (n : Int) := by omega
                have d4' : 0 < n := by omega
                have d5 : decide (x.t ≤ y.t) = false := by
                  have := Hprev.out _ (by omega) hP
                  rw [hykap] at this
                  simp; omega
                clear hP hy hy' hP0 hPl hykap hyt hy2 f0 hp1
                go_quiet (fail)
                go_wp2_with fail
                go_meet
                case rel => exact ⟨rfl, _, rfl⟩
            case rest =>
              obtain ⟨rfl, q0, rfl⟩ := hcut
              have HMW := Lib.hid (show MapIs (fun s : Int => Value.int .i64 s) (w4.drewN q0) w3.heap.size l from HM.out)
              have HbW := Lib.hid (below_drewN Hb.out q0)
              clear hlk d1 d2 d2' d3 o1 e0 e1 e2 e4
              generalize w4.drewN q0 = W at HMW HbW
              obtain ⟨w5, hrun, hM5, hg5⟩ := HMW.out.update (int_kind Try.underlying3) Try.underlying38 (k : Int) (.bool true)
              have HM5 := Lib.hid hM5
              have HS5 := Lib.hid (HSt.out.put (k : Int))
              have Hb5 := Lib.hid (show Below w3.heap.size w3 w5 from HbW.out.grown hg5 HbW.out.size (fun k hk => by cases hk; exact Nat.le_refl _))
              have ⟨b2, off2, x2, hao2, hblt2, hx2, _, _, _, wa2, wcap2, j4, j5⟩ := H3.out.get hkl
              simp only [Option.some.injEq, Addr.mk.injEq, and_true] at hao2
              obtain ⟨rfl, rfl⟩ := hao2
              obtain rfl : x = x2 := Option.some.inj (Hx.out.symm.trans hx2)
              rw [← Hb5.out.cell (by exact hblt2)] at j4
              have J5 := Lib.hid (mts_below j5 Hb5.out)
              clear hM5 hg5 hx2 j5
              go_wp2_with fail
              clear hrun j4
              go_loopg [7, 8, 90] x.ws.length (fun g v u i wr => OrdIn key x.ws p w5 g v u i wr)
              case atStart => exact ⟨0, p, rfl, by omega, by omega, rfl, rfl, rfl, Below.refl _ _⟩
              case round =>
                obtain ⟨m, p2, rfl, hm2, rfl, rfl, rfl, hfold, hb6⟩ := hrel
                have Hf := Lib.hid hfold
                have Hb6 := Lib.hid hb6
                clear hfold hb6
                by_cases hltm : m < x.ws.length
                · obtain ⟨b6, off6, u, rfl, hblt6, hu, u0, u1, u2⟩ := J5.out.get hltm
                  rw [← Hb6.out.cell (by exact hblt6)] at u0 u1 u2
                  have Hf2 := Lib.hid (show (x.ws.take (m + 1)).foldl (wStep key) p = wStep key p2 u by rw [take_snoc' hu, List.foldl_append, Hf.out]; rfl)
                  have hltmi : (m : Int) < (x.ws.length : Int) := by omega
                  have Hb7 := Lib.hid (up1 Hb6.out (Nat.le_refl _) (.cells #[.string u.k, .int .i64 u.c, .string u.v] 40))
                  clear hu
                  by_cases he : (u.k.toList == key.toList) = true
                  · have Hf3 := Lib.hid (show (x.ws.take (m + 1)).foldl (wStep key) p = (u.v, u.c == 1) by rw [Hf2.out]; unfold wStep; rw [if_pos he])
                    go_wp2_with fail
                    go_quiet (fail)
                    go_wp2_with fail
                    go_roundg (x.ws.length - (m + 1))
                    case measure => omega
                    case rel => exact ⟨m + 1, (u.v, u.c == 1), by go_num, by omega, rfl, rfl, by first | rfl | (simp), Hf3.out, below_drewN Hb7.out _⟩
                  · have he' : (u.k.toList == key.toList) = false := by simpa using he
                    have Hf3 := Lib.hid (show (x.ws.take (m + 1)).foldl (wStep key) p = p2 by rw [Hf2.out]; unfold wStep; rw [if_neg he])
                    clear he
                    go_wp2_with fail
                    go_roundg (x.ws.length - (m + 1))
                    case measure => omega
                    case rel => exact ⟨m + 1, p2, by go_num, by omega, rfl, rfl, rfl, Hf3.out, Hb7.out⟩
                · obtain rfl : m = x.ws.length := by omega
                  have Hf2 := Lib.hid (show lastO xs key (os.take (n + 1)) = p2 by
                    rw [Hlast2.out, ← Hf.out, List.take_length]; rfl)
                  have HM6 := Lib.hid (HM5.out.below Hb6.out)
                  have Hb7 := Lib.hid (then_ Hb5.out (Nat.le_refl _) Hb6.out)
                  have HS6 := Lib.hid (show SetOf (os.take (n + 1)) (mput (k : Int) (.bool true) l) by rw [take_snoc' HK.out]; exact HS5.out)
                  go_wp2_with fail
                  go_roundg (os.length - (n + 1))
                  case measure => omega
                  case rel => exact ⟨n + 1, p2, by go_num, by omega, rfl, rfl, rfl, Hf2.out, ⟨_, HM6.out, HS6.out⟩, Hb7.out⟩
          · obtain rfl : n = os.length := by omega
            rw [List.take_length] at Hlast HSt
            have Hlaw := Lib.hid (order_law Hm.out Hp.out Hs.out key 18446744073709551615 (fun x hx => by
              have := ((mayB_iff x).1 (((mayL_iff xs).1 Hm.out).1 x hx)).2.2.1
              omega))
            go_wp2_with fail
            go_loopg [107] xs.length (fun g i wr => ∃ n : Nat, i = .int .i64 n ∧ n ≤ xs.length ∧ g = xs.length - n ∧ w4 = wr)
            case atStart => exact ⟨0, rfl, by omega, by omega, rfl⟩
            case round =>
              obtain ⟨n, rfl, hn, rfl, rfl⟩ := hrel
              by_cases hlt : n < xs.length
              · obtain ⟨b, off, x, rfl, hblt, hx, e0, e1, _⟩ := H3.out.get hlt
                rw [← Hb.out.cell (by exact hblt)] at e0 e1
                have hlti : (n : Int) < (xs.length : Int) := by omega
                have hlk := HM.out.lookup (int_kind Try.underlying3) Try.underlying38 (z := .bool false) (by kernel_rfl) (n : Int)
                rw [HSt.out (n : Int)] at hlk
                by_cases ht : 0 < x.t
                · have hmem : (n : Int) ∈ os := Hp.out.mem_iff.2 (comm_mem.2 ⟨by omega, by omega, by rw [kap_of (x := x) (by simpa using hx)]; exact ht⟩)
                  rw [if_pos hmem] at hlk
                  clear hmem hx
                  go_wp2_with fail
                  go_roundg (xs.length - (n + 1))
                  case measure => omega
                  case rel => exact ⟨n + 1, by go_num, by omega, rfl, rfl⟩
                · clear hlk hx
                  go_wp2_with fail
                  go_roundg (xs.length - (n + 1))
                  case measure => omega
                  case rel => exact ⟨n + 1, by go_num, by omega, rfl, rfl⟩
              · go_wp2_with fail
                refine (value_calls _ _ xs key 18446744073709551615 _ (txs_below H3.out Hb.out) HS.out).mono ?_
                rintro e w6 ⟨rfl, hb6⟩
                have Hb6 := Lib.hid (then_ Hb3.out (Nat.le_refl _) (then_ Hb.out (Nat.le_refl _) hb6))
                have hlaw := Hlaw.out
                rw [Hlast.out] at hlaw
                clear hb6
                obtain ⟨pv, pb⟩ := p
                obtain ⟨vo, hvo⟩ : ∃ vo, valueOf xs key 18446744073709551615 = vo := ⟨_, rfl⟩
                rw [hvo] at hlaw
                simp only at hlaw
                rw [hvo]
                obtain ⟨hl1, hl2⟩ := hlaw
                subst hl1
                clear hvo
                cases vo with
                | none =>
                  clear hl2
                  go_wp2_with fail
                  go_ret
                  exact ⟨rfl, Hb6.out⟩
                | some v =>
                  obtain rfl : pv = v := hl2 v rfl
                  clear hl2
                  go_wp2_with fail
                  go_ret
                  exact ⟨rfl, Hb6.out⟩

end Go.Proofs.Ytghmjconljdapaa
