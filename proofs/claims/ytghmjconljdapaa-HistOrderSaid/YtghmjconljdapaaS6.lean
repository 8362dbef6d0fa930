/- The walk over symMerge. -/
import Derived.Test.YtghmjconljdapaaS7
namespace Go.Proofs.Ytghmjconljdapaa
open Go.RowKit

theorem bnd_ex {a q b : Nat} (h1 : a < q) (h2 : q < b) : ∃ lo hi, Bnd a q b ((a + b) / 2) lo hi := by
  by_cases h : (a + b) / 2 < q
  · exact ⟨_, _, h1, h2, rfl, .inl ⟨h, rfl, rfl⟩⟩
  · exact ⟨_, _, h1, h2, rfl, .inr ⟨by omega, rfl, rfl⟩⟩

set_option maxRecDepth 100000 in
set_option maxHeartbeats 8000000 in
theorem sym_gen {w0 : World} {ao : Option Addr} {n c lb : Nat} {xs : List Tx} (X : Ctx w0 ao n c lb xs) (cap db m N : Nat) (hm : m ≤ 100) (ih : SymOk w0 n lb xs cap db m N)
    (a q b : Nat) (d : Nat → Int) (w : World) (hN : b - a ≤ N + 1) (hin : In w0 n db m d w) (haq : a + 1 < q) (hqb : q + 1 < b) (hbm : b ≤ m) (hu1 : Upto (kd xs d) a q) (hu2 : Upto (kd xs d) q b) :
    Calls Try.prog 26 #[.slice (some ⟨db, 0, none⟩) m cap, .int .i64 a, .int .i64 q, .int .i64 b, .func (.func 20) #[] #[.pointer (some ⟨lb, 0, none⟩)]] w (Sorted w0 n db m a b xs d) := by
  have HX := Lib.hid X
  have Hin := Lib.hid hin
  have Hu1 := Lib.hid hu1
  have Hu2 := Lib.hid hu2
  have Hih := Lib.hid ih
  have x1 : ((q : Int) - (a : Int) == 1) = false := by simp; omega
  have x2 : ((b : Int) - (q : Int) == 1) = false := by simp; omega
  have x3 : ¬ (q : Int) - (a : Int) = 1 := by omega
  have x4 : ¬ (b : Int) - (q : Int) = 1 := by omega
  obtain ⟨lo0, hi0, hB⟩ := bnd_ex (a := a) (q := q) (b := b) (by omega) (by omega)
  obtain ⟨mid, hmid⟩ : ∃ mid, (a + b) / 2 = mid := ⟨_, rfl⟩
  rw [hmid] at hB
  have x5 : ((a : Int) + (b : Int)) / 2 = (mid : Int) := by omega
  obtain ⟨nn, hnn⟩ : ∃ nn, mid + q = nn := ⟨_, rfl⟩
  have x6 : (mid : Int) + (q : Int) = (nn : Int) := by omega
  have HB := Lib.hid hB
  have Hnn := Lib.hid hnn
  have hway := hB.way
  obtain ⟨f1, f2, f3, f4, f5, f6, f7, f8⟩ := hB.facts
  have g1 : nn ≤ lo0 + b := by omega
  have g2 : nn ≤ 200 := by omega
  have g3 : hi0 + 1 ≤ nn := by omega
  have g4 : mid < q → b ≤ nn := by have := hB.half; omega
  clear X hin hu1 hu2 ih hB hmid hnn
  go_enter Try.func26, Try.ntmps26
  go_upto_if 140 with fail
  clear x1 x2 x3 x4 x5 x6
  go_cut [20, 21] (fun u v wr => u = .int .i64 lo0 ∧ v = .int .i64 hi0 ∧ w = wr)
  case first =>
    rcases hway with ⟨y1, y2, y3⟩ | ⟨y1, y2, y3⟩
    · have y4 : (mid : Int) < (q : Int) := by omega
      have y5 : (nn : Int) - (b : Int) = (lo0 : Int) := by have := Hnn.out; have := g4 y1; omega
      subst y3
      clear y2
      go_wp2_with fail
      go_meet
      case rel => exact ⟨rfl, rfl, rfl⟩
    · have y4 : ¬ (mid : Int) < (q : Int) := by omega
      subst y2 y3
      go_wp2_with fail
      go_meet
      case rel => exact ⟨rfl, rfl, rfl⟩
  case rest =>
    obtain ⟨rfl, rfl, rfl⟩ := hcut
    clear hway g4
    go_wp2_with fail
    go_loopg [20, 21] (hi0 - lo0) (fun g iv jv wr => FindRel w (fun c => ¬ kd xs d (nn - 1 - c) < kd xs d c) lo0 hi0 g iv jv wr)
    case atStart => exact ⟨lo0, hi0, rfl, rfl, rfl, Cut.start _ f2, 0, rfl⟩
    case round =>
      obtain ⟨lo, hi, rfl, rfl, rfl, hc, nq, rfl⟩ := hrel
      have HC := Lib.hid (show Cut (fun c => ¬ kd xs d (nn - 1 - c) < kd xs d c) lo0 hi0 lo hi by simpa only [Int.not_lt] using hc)
      have b1 := hc.1
      have b2 := hc.2.1
      have b3 := hc.2.2.1
      clear hc
      by_cases hlt : lo < hi
      · have hlti : (lo : Int) < (hi : Int) := by omega
        obtain ⟨h, hh⟩ : ∃ h, (lo + hi) / 2 = h := ⟨_, rfl⟩
        have w2 : ((lo : Int) + (hi : Int)) / 2 = (h : Int) := by omega
        have h1 : lo ≤ h := by omega
        have h2 : h < hi := by omega
        obtain ⟨p, hp⟩ : ∃ p, nn - 1 - h = p := ⟨_, rfl⟩
        have w3 : IntKind.i64.wrap ((nn : Int) - 1 - (h : Int)) = (p : Int) := by rw [IntWalk.i64_in _ (by omega)]; omega
        have hpb : p < b := by omega
        have hhm : (h : Int) < (m : Int) := by omega
        have hpm : (p : Int) < (m : Int) := by omega
        have r1 := Hin.out.rng p (by omega)
        have r2 := Hin.out.rng h (by omega)
        have c1 := Hin.out.cells.cell (i := p) (by omega)
        have c2 := Hin.out.cells.cell (i := h) (by omega)
        have hmono := HB.out.mono Hu1.out Hu2.out
        rw [Hnn.out] at hmono
        have Hup := Lib.hid (fun (h' : ¬ kd xs d (nn - 1 - h) < kd xs d h) => HC.out.up h1 h2 h' hmono)
        have Hdn := Lib.hid (fun (h' : kd xs d (nn - 1 - h) < kd xs d h) => HC.out.down h1 h2 (fun h'' => h'' h') hmono)
        obtain ⟨u, hu⟩ : ∃ u, d p = u := ⟨_, rfl⟩
        obtain ⟨v, hv⟩ : ∃ v, d h = v := ⟨_, rfl⟩
        have hku : kd xs d (nn - 1 - h) = kap xs u := by unfold kd; rw [hp, hu]
        have hkv : kd xs d h = kap xs v := by unfold kd; rw [hv]
        rw [hu] at r1 c1
        rw [hv] at r2 c2
        have Hc := Lib.hid (fun q => cmp_calls HX.out (w.drewN q) (below_drewN Hin.out.bel q) u v r1 r2)
        have Hku := Lib.hid hku
        have Hkv := Lib.hid hkv
        clear hh hu hv r1 r2 hku hkv hmono hp
        obtain ⟨cv, hcv⟩ : ∃ cv, cmpI (kap xs u) (kap xs v) = cv := ⟨_, rfl⟩
        rw [hcv] at Hc
        have Hcv := Lib.hid hcv
        clear hcv
        by_cases hneg : cv < 0
        · have HN := Lib.hid (Hdn.out (by rw [Hku.out, Hkv.out, ← cmp_neg, Hcv.out]; exact hneg))
          go_wp2_with fail
          go_quiet ((go_at_call 20; first | exact quiet_first (Hc.out _) | exact quiet_more (Hc.out _)))
          clear w2 w3
          go_wp2_with fail
          go_roundg (h - lo)
          case measure => omega
          case rel => exact ⟨lo, h, rfl, rfl, rfl, HN.out, _, by first | rfl | exact World.drewN_drewN _ _ _⟩
        · have hneg' : decide (cv < 0) = false := by simpa using hneg
          have HN := Lib.hid (Hup.out (by rw [Hku.out, Hkv.out, ← cmp_neg, Hcv.out]; exact hneg))
          go_wp2_with fail
          go_quiet ((go_at_call 20; first | exact quiet_first (Hc.out _) | exact quiet_more (Hc.out _)))
          clear w2 w3
          go_wp2_with fail
          go_roundg (hi - (h + 1))
          case measure => omega
          case rel => exact ⟨h + 1, hi, by go_num, rfl, rfl, HN.out, _, by first | rfl | exact World.drewN_drewN _ _ _⟩
      · obtain rfl : lo = hi := by omega
        have Hw := Lib.hid (Hin.out.drewN nq)
        generalize w.drewN nq = w1 at Hw
        obtain ⟨e, he⟩ : ∃ e, nn - lo = e := ⟨_, rfl⟩
        have x7 : (nn : Int) - (lo : Int) = (e : Int) := by omega
        have g4 : lo ≤ q := by omega
        have g5 : e ≤ b := by omega
        have g6 : e ≤ nn := by omega
        have g7 : lo ≤ mid := by omega
        have g8 : mid ≤ e := by have := Hnn.out; omega
        have g9 : a ≤ lo := by omega
        have g11 : a < mid := by have := HB.out.half; omega
        have g10 : q ≤ e := by have := Hnn.out; omega
        have He := Lib.hid he
        have Hml := Lib.hid (fun f' ht => merge_law (f' := f') HB.out Hu1.out Hu2.out (by have := HC.out; rwa [← Hnn.out] at this) ht)
        clear he
        have hq : ∀ d2, Turned lo q e d d2 → Quarters xs a lo mid e b d2 := by
          intro d2 ht
          have h1 := Hml.out (kd xs d2) (by rw [Hnn.out, He.out]; exact ht.kd)
          rw [Hnn.out, He.out] at h1
          exact ⟨h1.2.2.2.2.2.2.1, h1.2.2.2.2.2.2.2.1, h1.2.2.2.2.2.2.2.2.1, h1.2.2.2.2.2.2.2.2.2.1, h1.2.2.2.2.2.2.2.2.2.2⟩
        have Hq := Lib.hid hq
        clear hq
        go_upto_region 38 with fail
        go_cut [24] (fun v wr => v = .int .i64 e ∧ w1 = wr)
        case first =>
          go_wp2_with fail
          go_meet
          case rel => exact ⟨rfl, rfl⟩
        case rest =>
          obtain ⟨rfl, rfl⟩ := hcut
          apply_assumption
          exact tail39 HX.out cap db m N hm Hih.out a q b lo mid e d d _ g9 g7 g8 g5 g11 f7 hN hbm (Moved.refl _ _ _ _) Hw.out _ _ _ _ _ _ _ _ _ _ _ _ _ _ _ _ _ _ _ _ _ _ _ _ _ _ _ _ _ _ _ _ _ _ _ _ _ _ _ _ _ _ _ _ _ _ _ _ _ _ _ _ _ _ _ _ _ _ _ _ _ _ _ _ _ _ _ _ _ _ _ _ _ _ _ _ _ _ _ _ _ _ _ _ _ _ _ _ _ _ _ _ _ _ _ _ _ _ _ _ _ _ _ _ _ _ _ _ _ _ _ _ _ _ _ _ _ _ _ _ _ _ _ _ _ _ _ _ _ _ _ _ _ _ _ _ _ _ _ _ _ _ _ _ _ _ _ _ _ _ _ _ _ _ _ _ _ _ _ _ _ _ _ _ _ _ _ _ _ _ _ _ _ _ _ _ _ _ _ _ _ _ _ _ _ _ _ _ _ _ _ _ _ _ _ _ _ _ _ _ _ _ _ _ _ _ _ _ _ _ _ _ g4 g10 Hq.out

theorem sym_calls {w0 : World} {ao : Option Addr} {n c lb : Nat} {xs : List Tx} (X : Ctx w0 ao n c lb xs) (cap db m : Nat) (hm : m ≤ 100) : ∀ N, SymOk w0 n lb xs cap db m N := by
  intro N
  induction N with
  | zero => intro a q b d w h1 _ h2 h3; omega
  | succ N ih =>
    intro a q b d w hN hin haq hqb hbm hu1 hu2
    by_cases e1 : q = a + 1
    · exact sym_first X cap db m a b d w hin (by omega) hbm hm (by rw [← e1]; exact hu2) q e1
    · by_cases e2 : b = q + 1
      · exact sym_last X cap db m a q d w hin (by omega) (by omega) hm hu1 b e2
      · exact sym_gen X cap db m N hm ih a q b d w hN hin (by omega) (by omega) hbm hu1 hu2

end Go.Proofs.Ytghmjconljdapaa
