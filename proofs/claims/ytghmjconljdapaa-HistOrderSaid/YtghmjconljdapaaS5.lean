/- The walks over symMerge where one side is a single number. -/
import Derived.Test.YtghmjconljdapaaS4
namespace Go.Proofs.Ytghmjconljdapaa
open Go.RowKit

/-- The test of a comparison. -/
theorem cmp_neg (x y : Int) : cmpI x y < 0 ↔ x < y := by
  unfold cmpI
  split
  · simp_all
  · split <;> simp_all

def FindRel (w : World) (p : Nat → Prop) (lo0 hi0 : Nat) (g : Nat) (iv jv : Value) (wr : World) : Prop :=
  ∃ lo hi : Nat, iv = .int .i64 lo ∧ jv = .int .i64 hi ∧ g = hi - lo ∧ Cut p lo0 hi0 lo hi ∧ ∃ q, wr = w.drewN q

def UpRel (w0 : World) (n db m a b i : Nat) (d : Nat → Int) (g : Nat) (kv : Value) (w : World) : Prop :=
  ∃ k : Nat, kv = .int .i64 k ∧ a ≤ k ∧ k + 1 ≤ i ∧ g = i - k ∧ Sorting w0 n db m a b d (fun d' => Turned a (a + 1) (k + 1) d d') w

set_option maxRecDepth 100000 in
set_option maxHeartbeats 4000000 in
theorem sym_first {w0 : World} {ao : Option Addr} {n c lb : Nat} {xs : List Tx} (X : Ctx w0 ao n c lb xs) (cap db m a b : Nat) (d : Nat → Int) (w : World) (hin : In w0 n db m d w)
    (hqb : a + 1 < b) (hbm : b ≤ m) (hm : m ≤ 100) (hu : Upto (kd xs d) (a + 1) b) (q : Nat) (hq : q = a + 1) :
    Calls Try.prog 26 #[.slice (some ⟨db, 0, none⟩) m cap, .int .i64 a, .int .i64 q, .int .i64 b, .func (.func 20) #[] #[.pointer (some ⟨lb, 0, none⟩)]] w (Sorted w0 n db m a b xs d) := by
  have HX := Lib.hid X
  have Hin := Lib.hid hin
  have Hu := Lib.hid hu
  have w1 : (q : Int) - (a : Int) = 1 := by omega
  have hq1 : a < q := by omega
  have hq2 : q < b := by omega
  have hq3 : q ≤ a + 1 := by omega
  have Hq := Lib.hid hq
  clear X hin hu hq
  go_enter Try.func26, Try.ntmps26
  go_wp2_with fail
  go_loopg [10, 11] (b - q) (fun g iv jv wr => FindRel w (fun k => kd xs d k < kd xs d a) q b g iv jv wr)
  case atStart => exact ⟨q, b, rfl, rfl, rfl, Cut.start _ (by omega), 0, rfl⟩
  case round =>
    obtain ⟨lo, hi, rfl, rfl, rfl, hc, nq, rfl⟩ := hrel
    have HC := Lib.hid hc
    have b1 := hc.1
    have b2 := hc.2.1
    have b3 := hc.2.2.1
    clear hc w1
    by_cases hlt : lo < hi
    · have hlti : (lo : Int) < (hi : Int) := by omega
      obtain ⟨h, hh⟩ : ∃ h, (lo + hi) / 2 = h := ⟨_, rfl⟩
      have w2 : ((lo : Int) + (hi : Int)) / 2 = (h : Int) := by omega
      have h1 : lo ≤ h := by omega
      have h2 : h < hi := by omega
      have hhm : (h : Int) < (m : Int) := by omega
      have ham : (a : Int) < (m : Int) := by omega
      have r1 := Hin.out.rng h (by omega)
      have r2 := Hin.out.rng a (by omega)
      have c1 := Hin.out.cells.cell (i := h) (by omega)
      have c2 := Hin.out.cells.cell (i := a) (by omega)
      have hmono : ∀ i j, q ≤ i → i < j → j < b → kd xs d j < kd xs d a → kd xs d i < kd xs d a := by
        intro i j k1 k2 k3 k4
        have := Hu.out i j (by omega) k2 k3
        omega
      have Hup := Lib.hid (fun (h : kd xs d h < kd xs d a) => HC.out.up h1 h2 h hmono)
      have Hdn := Lib.hid (fun (h : ¬ kd xs d h < kd xs d a) => HC.out.down h1 h2 h hmono)
      obtain ⟨u, hu⟩ : ∃ u, d h = u := ⟨_, rfl⟩
      obtain ⟨v, hv⟩ : ∃ v, d a = v := ⟨_, rfl⟩
      have hku : kd xs d h = kap xs u := by unfold kd; rw [hu]
      have hkv : kd xs d a = kap xs v := by unfold kd; rw [hv]
      rw [hu] at r1 c1
      rw [hv] at r2 c2
      have Hc := Lib.hid (fun q => cmp_calls HX.out (w.drewN q) (below_drewN Hin.out.bel q) u v r1 r2)
      have Hku := Lib.hid hku
      have Hkv := Lib.hid hkv
      clear hh hu hv r1 r2 hku hkv hmono
      obtain ⟨cv, hcv⟩ : ∃ cv, cmpI (kap xs u) (kap xs v) = cv := ⟨_, rfl⟩
      rw [hcv] at Hc
      have Hcv := Lib.hid hcv
      clear hcv
      by_cases hneg : cv < 0
      · have HN := Lib.hid (Hup.out (by rw [Hku.out, Hkv.out, ← cmp_neg, Hcv.out]; exact hneg))
        go_wp2_with fail
        go_quiet ((go_at_call 20; first | exact quiet_first (Hc.out _) | exact quiet_more (Hc.out _)))
        clear w2
        go_wp2_with fail
        go_roundg (hi - (h + 1))
        case measure => omega
        case rel => exact ⟨h + 1, hi, by go_num, rfl, rfl, HN.out, _, by first | rfl | exact World.drewN_drewN _ _ _⟩
      · have hneg' : decide (cv < 0) = false := by simpa using hneg
        have HN := Lib.hid (Hdn.out (by rw [Hku.out, Hkv.out, ← cmp_neg, Hcv.out]; exact hneg))
        go_wp2_with fail
        go_quiet ((go_at_call 20; first | exact quiet_first (Hc.out _) | exact quiet_more (Hc.out _)))
        clear w2
        go_wp2_with fail
        go_roundg (h - lo)
        case measure => omega
        case rel => exact ⟨lo, h, rfl, rfl, rfl, HN.out, _, by first | rfl | exact World.drewN_drewN _ _ _⟩
    · obtain rfl : lo = hi := by omega
      have Hw := Lib.hid (Hin.out.drewN nq)
      generalize w.drewN nq = w1 at Hw
      go_wp2_with fail
      go_loopg [13] (lo - a) (fun g kv wr => UpRel w0 n db m a b lo d g kv wr)
      case atStart => exact ⟨a, rfl, Nat.le_refl _, by omega, rfl, d, Moved.refl _ _ _ _, Hw.out, Turned.same d (.inr rfl) (by omega) (Nat.le_refl _)⟩
      case round =>
        obtain ⟨k, rfl, hk1, hk2, rfl, d', hmv, hin, htu⟩ := hrel
        have HM := Lib.hid hmv
        have HT := Lib.hid htu
        have HI := Lib.hid hin
        clear hmv htu hin
        by_cases hlt2 : k + 1 < lo
        · have hlti : (k : Int) < (lo : Int) - 1 := by omega
          obtain ⟨p, hp⟩ : ∃ p, k + 1 = p := ⟨_, rfl⟩
          have hkm : (k : Int) < (m : Int) := by omega
          have hpm : (p : Int) < (m : Int) := by omega
          have c1 := HI.out.cells.cell (i := k) (by omega)
          have c2 := HI.out.cells.cell (i := p) (by omega)
          have z1 := HI.out.cells.frozen (by omega) k
          have z2 := HI.out.cells.frozen (by omega) p
          obtain ⟨u, hu⟩ : ∃ u, d' k = u := ⟨_, rfl⟩
          obtain ⟨v, hv⟩ : ∃ v, d' p = v := ⟨_, rfl⟩
          rw [hu] at c1
          rw [hv] at c2
          have HT2 := Lib.hid (turn_up hk1 HT.out)
          have HI2 := Lib.hid (HI.out.swap (i := k) (j := p) (by omega) (by omega))
          have HM2 := Lib.hid (HM.out.trans (Moved.swap d' (i := k) (j := p) (by omega) (by omega) (by omega) (by omega) hbm))
          rw [hp] at HT2
          rw [hu, hv] at HI2
          have hne : ¬ k = p := by omega
          have hne' : ¬ p = k := by omega
          have w2 : IntKind.i64.wrap ((k : Int) + 1) = (p : Int) := by rw [IntWalk.i64_in _ (by omega)]; omega
          have Hp := Lib.hid hp
          clear hp hu hv
          go_wp2_with fail
          go_region
          clear w2
          go_wp2_with fail
          go_roundg (lo - (k + 1))
          case measure => omega
          case rel => exact ⟨k + 1, by go_num, by omega, by omega, rfl, _, HM2.out, HI2.out.drewN 1, HT2.out⟩
        · have hlti : ¬ (k : Int) < (lo : Int) - 1 := by omega
          have HF := Lib.hid (show Sorting w0 n db m a b d (fun d' => Upto (kd xs d') a b) wr from ⟨d', HM.out, HI.out, by
            have h1 := Hq.out
            subst h1
            have h2 := HT.out
            rw [show k + 1 = lo by omega] at h2
            exact put_first Hu.out HC.out h2.kd⟩)
          go_wp2_with fail
          first | go_end0 | refine bodyPost_ret (results_none rfl _ _ _) rfl ?_
          exact ⟨rfl, HF.out⟩

def DownRel (w0 : World) (n db m a b i q : Nat) (d : Nat → Int) (g : Nat) (kv : Value) (w : World) : Prop :=
  ∃ k : Nat, kv = .int .i64 k ∧ i ≤ k ∧ k ≤ q ∧ k = g ∧ Sorting w0 n db m a b d (fun d' => Turned k q (q + 1) d d') w

set_option maxRecDepth 100000 in
set_option maxHeartbeats 4000000 in
theorem sym_last {w0 : World} {ao : Option Addr} {n c lb : Nat} {xs : List Tx} (X : Ctx w0 ao n c lb xs) (cap db m a q : Nat) (d : Nat → Int) (w : World) (hin : In w0 n db m d w)
    (haq : a + 1 < q) (hbm : q + 1 ≤ m) (hm : m ≤ 100) (hu : Upto (kd xs d) a q) (b : Nat) (hb : b = q + 1) :
    Calls Try.prog 26 #[.slice (some ⟨db, 0, none⟩) m cap, .int .i64 a, .int .i64 q, .int .i64 b, .func (.func 20) #[] #[.pointer (some ⟨lb, 0, none⟩)]] w (Sorted w0 n db m a b xs d) := by
  have HX := Lib.hid X
  have Hin := Lib.hid hin
  have Hu := Lib.hid hu
  have w1 : (b : Int) - (q : Int) = 1 := by omega
  have w2 : ((q : Int) - (a : Int) == 1) = false := by simp; omega
  have w3 : ¬ (q : Int) - (a : Int) = 1 := by omega
  have hq2 : q < b := by omega
  have hb3 : b ≤ q + 1 := by omega
  have Hb := Lib.hid hb
  clear X hin hu hb
  go_enter Try.func26, Try.ntmps26
  go_wp2_with fail
  go_loopg [14, 15] (q - a) (fun g iv jv wr => FindRel w (fun k => ¬ kd xs d q < kd xs d k) a q g iv jv wr)
  case atStart => exact ⟨a, q, rfl, rfl, rfl, Cut.start _ (by omega), 0, rfl⟩
  case round =>
    obtain ⟨lo, hi, rfl, rfl, rfl, hc, nq, rfl⟩ := hrel
    have HC := Lib.hid hc
    have b1 := hc.1
    have b2 := hc.2.1
    have b3 := hc.2.2.1
    clear hc w1 w2 w3
    by_cases hlt : lo < hi
    · have hlti : (lo : Int) < (hi : Int) := by omega
      obtain ⟨h, hh⟩ : ∃ h, (lo + hi) / 2 = h := ⟨_, rfl⟩
      have w2 : ((lo : Int) + (hi : Int)) / 2 = (h : Int) := by omega
      have h1 : lo ≤ h := by omega
      have h2 : h < hi := by omega
      have hhm : (h : Int) < (m : Int) := by omega
      have ham : (q : Int) < (m : Int) := by omega
      have r1 := Hin.out.rng q (by omega)
      have r2 := Hin.out.rng h (by omega)
      have c1 := Hin.out.cells.cell (i := q) (by omega)
      have c2 := Hin.out.cells.cell (i := h) (by omega)
      have hmono : ∀ i j, a ≤ i → i < j → j < q → ¬ kd xs d q < kd xs d j → ¬ kd xs d q < kd xs d i := by
        intro i j k1 k2 k3 k4
        have := Hu.out i j k1 k2 (by omega)
        omega
      have Hup := Lib.hid (fun (h : ¬ kd xs d q < kd xs d h) => HC.out.up h1 h2 h hmono)
      have Hdn := Lib.hid (fun (h : kd xs d q < kd xs d h) => HC.out.down h1 h2 (fun h' => h' h) hmono)
      obtain ⟨u, hu⟩ : ∃ u, d q = u := ⟨_, rfl⟩
      obtain ⟨v, hv⟩ : ∃ v, d h = v := ⟨_, rfl⟩
      have hku : kd xs d q = kap xs u := by unfold kd; rw [hu]
      have hkv : kd xs d h = kap xs v := by unfold kd; rw [hv]
      rw [hu] at r1 c1
      rw [hv] at r2 c2
      have Hc := Lib.hid (fun q => cmp_calls HX.out (w.drewN q) (below_drewN Hin.out.bel q) u v r1 r2)
      have Hku := Lib.hid hku
      have Hkv := Lib.hid hkv
      clear hh hu hv r1 r2 hku hkv hmono
      obtain ⟨cv, hcv⟩ : ∃ cv, cmpI (kap xs u) (kap xs v) = cv := ⟨_, rfl⟩
      rw [hcv] at Hc
      have Hcv := Lib.hid hcv
      clear hcv
      by_cases hneg : cv < 0
      · have HN := Lib.hid (Hdn.out (by rw [Hku.out, Hkv.out, ← cmp_neg, Hcv.out]; exact hneg))
        go_wp2_with fail
        go_quiet ((go_at_call 20; first | exact quiet_first (Hc.out _) | exact quiet_more (Hc.out _)))
        clear w2
        go_wp2_with fail
        go_roundg (h - lo)
        case measure => omega
        case rel => exact ⟨lo, h, rfl, rfl, rfl, HN.out, _, by first | rfl | exact World.drewN_drewN _ _ _⟩
      · have hneg' : decide (cv < 0) = false := by simpa using hneg
        have HN := Lib.hid (Hup.out (by rw [Hku.out, Hkv.out, ← cmp_neg, Hcv.out]; exact hneg))
        go_wp2_with fail
        go_quiet ((go_at_call 20; first | exact quiet_first (Hc.out _) | exact quiet_more (Hc.out _)))
        clear w2
        go_wp2_with fail
        go_roundg (hi - (h + 1))
        case measure => omega
        case rel => exact ⟨h + 1, hi, by go_num, rfl, rfl, HN.out, _, by first | rfl | exact World.drewN_drewN _ _ _⟩
    · obtain rfl : lo = hi := by omega
      have Hw := Lib.hid (Hin.out.drewN nq)
      generalize w.drewN nq = w1 at Hw
      go_wp2_with fail
      go_loopg [17] q (fun g kv wr => DownRel w0 n db m a b lo q d g kv wr)
      case atStart => exact ⟨q, rfl, by omega, Nat.le_refl _, rfl, d, Moved.refl _ _ _ _, Hw.out, Turned.same d (.inl rfl) (Nat.le_refl _) (by omega)⟩
      case round =>
        obtain ⟨k, rfl, hk1, hk2, rfl, d', hmv, hin, htu⟩ := hrel
        have HM := Lib.hid hmv
        have HT := Lib.hid htu
        have HI := Lib.hid hin
        clear hmv htu hin
        by_cases hlt2 : lo < k
        · have hlti : (lo : Int) < (k : Int) := by omega
          obtain ⟨p, hp⟩ : ∃ p, k - 1 = p := ⟨_, rfl⟩
          have hkm : (k : Int) < (m : Int) := by omega
          have hpm : (p : Int) < (m : Int) := by omega
          have hpk : p < k := by omega
          have hpa : a ≤ p := by omega
          have hpl : lo ≤ p := by omega
          have c1 := HI.out.cells.cell (i := k) (by omega)
          have c2 := HI.out.cells.cell (i := p) (by omega)
          have z1 := HI.out.cells.frozen (by omega) k
          have z2 := HI.out.cells.frozen (by omega) p
          obtain ⟨u, hu⟩ : ∃ u, d' k = u := ⟨_, rfl⟩
          obtain ⟨v, hv⟩ : ∃ v, d' p = v := ⟨_, rfl⟩
          rw [hu] at c1
          rw [hv] at c2
          have HT2 := Lib.hid (turn_down (by omega) hk2 HT.out)
          have HI2 := Lib.hid (HI.out.swap (i := k) (j := p) (by omega) (by omega))
          have HM2 := Lib.hid (HM.out.trans (Moved.swap d' (i := k) (j := p) (by omega) (by omega) (by omega) (by omega) (by omega)))
          rw [hp] at HT2
          rw [hu, hv] at HI2
          have hne : ¬ k = p := by omega
          have hne' : ¬ p = k := by omega
          have w2 : IntKind.i64.wrap ((k : Int) - 1) = (p : Int) := by rw [IntWalk.i64_in _ (by omega)]; omega
          have Hp := Lib.hid hp
          clear hp hu hv
          go_wp2_with fail
          go_region
          go_wp2_with fail
          go_roundg p
          case measure => omega
          case rel => exact ⟨p, rfl, hpl, by omega, rfl, _, HM2.out, HI2.out.drewN 1, HT2.out⟩
        · have hlti : ¬ (lo : Int) < (k : Int) := by omega
          have HF := Lib.hid (show Sorting w0 n db m a b d (fun d' => Upto (kd xs d') a b) wr from ⟨d', HM.out, HI.out, by
            have h1 := Hb.out
            subst h1
            have h2 := HT.out
            rw [show k = lo by omega] at h2
            exact put_last Hu.out (by simpa only [Int.not_lt] using HC.out) h2.kd⟩)
          go_wp2_with fail
          first | go_end0 | refine bodyPost_ret (results_none rfl _ _ _) rfl ?_
          exact ⟨rfl, HF.out⟩

end Go.Proofs.Ytghmjconljdapaa
