/- The walks over swapRange and rotate. -/
import Derived.Test.YtghmjconljdapaaS3
namespace Go.Proofs.Ytghmjconljdapaa
open Go.RowKit

/-- What a call of the sort leaves, in general. -/
def Does (w0 : World) (n db m a b : Nat) (d : Nat → Int) (P : (Nat → Int) → Prop) (e : Ending) (w : World) : Prop :=
  e = .returned (.tuple #[]) ∧ Sorting w0 n db m a b d P w

def SwapRel (w0 : World) (n db m a b k : Nat) (d : Nat → Int) (g : Nat) (iv : Value) (w : World) : Prop :=
  ∃ i : Nat, iv = .int .i64 i ∧ i ≤ k ∧ g = k - i ∧ Sorting w0 n db m a (b + k) d (fun d' => Swapped a b i d d') w

set_option maxRecDepth 100000 in
set_option maxHeartbeats 4000000 in
theorem swapRange_calls {w0 : World} (fv : Value) (lb : Nat) (hfv : fv = .func (.func 20) #[] #[.pointer (some ⟨lb, 0, none⟩)]) (cap n db m a b k : Nat) (d : Nat → Int) (w : World) (hin : In w0 n db m d w)
    (hab : a + k ≤ b) (hbm : b + k ≤ m) (hm : m ≤ 100) :
    Calls Try.prog 28 #[.slice (some ⟨db, 0, none⟩) m cap, .int .i64 a, .int .i64 b, .int .i64 k, fv] w (Does w0 n db m a (b + k) d (fun d' => Swapped a b k d d')) := by
  subst hfv
  have Hin := Lib.hid hin
  clear hin
  go_enter Try.func28, Try.ntmps28
  go_wp2_with fail
  go_loopg [10] k (fun g iv wr => SwapRel w0 n db m a b k d g iv wr)
  case atStart => exact ⟨0, rfl, by omega, by omega, d, Moved.refl _ _ _ _, Hin.out, Swapped.zero _ _ _⟩
  case round =>
    obtain ⟨i, rfl, hi, rfl, d', hmv, hin, hsw⟩ := hrel
    have HM := Lib.hid hmv
    have HS := Lib.hid hsw
    have HI := Lib.hid hin
    clear hmv hsw hin
    by_cases hlt : i < k
    · have hlti : (i : Int) < (k : Int) := by omega
      obtain ⟨p, hp⟩ : ∃ p, a + i = p := ⟨_, rfl⟩
      obtain ⟨q, hq⟩ : ∃ q, b + i = q := ⟨_, rfl⟩
      have hpm : (p : Int) < (m : Int) := by omega
      have hqm : (q : Int) < (m : Int) := by omega
      have h3 : a ≤ p := by omega
      have h4 : p < q := by omega
      have h5 : q < b + k := by omega
      have c1 := HI.out.cells.cell (i := p) (by omega)
      have c2 := HI.out.cells.cell (i := q) (by omega)
      have z1 := HI.out.cells.frozen (by omega) p
      have z2 := HI.out.cells.frozen (by omega) q
      obtain ⟨u, hu⟩ : ∃ u, d' p = u := ⟨_, rfl⟩
      obtain ⟨v, hv⟩ : ∃ v, d' q = v := ⟨_, rfl⟩
      rw [hu] at c1
      rw [hv] at c2
      have HS2 := Lib.hid (HS.out.step (by omega))
      have HI2 := Lib.hid (HI.out.swap (i := p) (j := q) (by omega) (by omega))
      have HM2 := Lib.hid (HM.out.trans (Moved.swap d' (i := p) (j := q) (by omega) (by omega) (by omega) (by omega) hbm))
      rw [hp, hq] at HS2
      rw [hu, hv] at HI2
      have hne : ¬ p = q := by omega
      have hne' : ¬ q = p := by omega
      have w1 : IntKind.i64.wrap ((a : Int) + (i : Int)) = (p : Int) := by rw [IntWalk.i64_in _ (by omega)]; omega
      have w2 : IntKind.i64.wrap ((b : Int) + (i : Int)) = (q : Int) := by rw [IntWalk.i64_in _ (by omega)]; omega
      clear hp hq hu hv
      go_wp2_with fail
      go_region
      clear w1 w2
      go_wp2_with fail
      go_roundg (k - (i + 1))
      case measure => omega
      case rel => exact ⟨i + 1, by go_num, by omega, rfl, _, HM2.out, HI2.out.drewN 1, HS2.out⟩
    · obtain rfl : i = k := by omega
      go_wp2_with fail
      first | go_end0 | refine bodyPost_ret (results_none rfl _ _ _) rfl ?_
      exact ⟨rfl, d', HM.out, HI.out, HS.out⟩

def RotRel (w0 : World) (n db m a q b : Nat) (d : Nat → Int) (g : Nat) (iv jv : Value) (w : World) : Prop :=
  ∃ s i j : Nat, iv = .int .i64 i ∧ jv = .int .i64 j ∧ q = s + i ∧ a ≤ s ∧ q + j ≤ b ∧ 0 < i ∧ 0 < j ∧ g = i + j ∧
    Sorting w0 n db m a b d (fun d' => ∀ d'', Turned s q (q + j) d' d'' → Turned a q b d d'') w

theorem Sorting.step {w0 : World} {n db m a b a' b' : Nat} {d d' : Nat → Int} {P : (Nat → Int) → Prop} {w' : World} (hm : Moved a b m d d') (h : Sorting w0 n db m a' b' d' P w') (h1 : a ≤ a') (h2 : b' ≤ b) : Sorting w0 n db m a b d P w' := by
  obtain ⟨e, h3, h4, h5⟩ := h
  exact ⟨e, hm.trans (h3.wide h1 h2), h4, h5⟩

theorem Sorting.imp {w0 : World} {n db m a b : Nat} {d : Nat → Int} {P Q : (Nat → Int) → Prop} {w : World} (h : Sorting w0 n db m a b d P w) (hpq : ∀ e, P e → Q e) : Sorting w0 n db m a b d Q w := by
  obtain ⟨e, h3, h4, h5⟩ := h
  exact ⟨e, h3, h4, hpq e h5⟩

set_option maxRecDepth 100000 in
set_option maxHeartbeats 4000000 in
theorem rotate_calls {w0 : World} (fv : Value) (lb : Nat) (hfv : fv = .func (.func 20) #[] #[.pointer (some ⟨lb, 0, none⟩)]) (cap n db m a q b : Nat) (d : Nat → Int) (w : World) (hin : In w0 n db m d w)
    (haq : a < q) (hqb : q < b) (hbm : b ≤ m) (hm : m ≤ 100) :
    Calls Try.prog 27 #[.slice (some ⟨db, 0, none⟩) m cap, .int .i64 a, .int .i64 q, .int .i64 b, fv] w (Does w0 n db m a b d (fun d' => Turned a q b d d')) := by
  subst hfv
  have Hin := Lib.hid hin
  clear hin
  obtain ⟨i0, hi0⟩ : ∃ i0, q - a = i0 := ⟨_, rfl⟩
  obtain ⟨j0, hj0⟩ : ∃ j0, b - q = j0 := ⟨_, rfl⟩
  have w1 : ((q : Int) - (a : Int)) = (i0 : Int) := by omega
  have w2 : ((b : Int) - (q : Int)) = (j0 : Int) := by omega
  have hi1 : 0 < i0 := by omega
  have hj1 : 0 < j0 := by omega
  have Hi0 := Lib.hid hi0
  have Hj0 := Lib.hid hj0
  clear hi0 hj0
  go_enter Try.func27, Try.ntmps27
  go_wp2_with fail
  go_loopg [10, 11] (i0 + j0) (fun g iv jv wr => RotRel w0 n db m a q b d g iv jv wr)
  case atStart =>
    have h1 := Hi0.out
    have h2 := Hj0.out
    exact ⟨a, i0, j0, by first | rfl | (congr 1), by first | rfl | (congr 1), by omega, Nat.le_refl _, by omega, hi1, hj1, rfl, d, Moved.refl _ _ _ _, Hin.out, fun d'' h => by rwa [show q + j0 = b by omega] at h⟩
  case round =>
    obtain ⟨s, i, j, rfl, rfl, hq, has, hqj, hip, hjp, rfl, d', hmv, hin, hrot⟩ := hrel
    have HM := Lib.hid hmv
    have HR := Lib.hid hrot
    have HI := Lib.hid hin
    have Hq := Lib.hid hq
    have w3 : (q : Int) - (i : Int) = (s : Int) := by omega
    have hq1 : s + i ≤ q := by omega
    have hq2 : q ≤ s + i := by omega
    clear w1 w2 hmv hrot hin hq
    by_cases hij : i = j
    · subst hij
      go_wp2_with fail
      refine (swapRange_calls _ lb rfl cap n db m s q i d' _ HI.out (by omega) (by omega) hm).mono ?_
      rintro e w' ⟨rfl, hS⟩
      have hS2 := Sorting.step HM.out hS has (by omega)
      have HF := Lib.hid (hS2.imp (Q := fun d'' => Turned a q b d d'') (fun e he => HR.out e (by
        have h1 := Hq.out
        subst h1
        exact rot3 he)))
      clear hS hS2
      go_wp2_with fail
      first | go_end0 | refine bodyPost_ret (results_none rfl _ _ _) rfl ?_
      exact ⟨rfl, HF.out⟩
    · have hne : ((i : Int) != (j : Int)) = true := by simp; omega
      have hne2 : ¬ (i : Int) = (j : Int) := by omega
      by_cases hlt : j < i
      · have hlti : (j : Int) < (i : Int) := by omega
        clear hij
        go_wp2_with fail
        refine (swapRange_calls _ lb rfl cap n db m s q j d' _ HI.out (by omega) (by omega) hm).mono ?_
        rintro e w' ⟨rfl, hS⟩
        have hS2 := Sorting.step HM.out hS has hqj
        have HF := Lib.hid (hS2.imp (Q := fun d1 => ∀ d'', Turned (s + j) q (q + j) d1 d'' → Turned a q b d d'') (fun e he d'' ht => HR.out d'' (by
          have h1 := Hq.out
          subst h1
          exact rot1 hlt he ht)))
        clear hS hS2 w3
        go_wp2_with fail
        go_roundg ((i - j) + j)
        case measure => omega
        case rel => exact ⟨s + j, i - j, j, by congr 1; omega, rfl, by omega, by omega, hqj, by omega, hjp, rfl, HF.out⟩
      · have hlti : ¬ (j : Int) < (i : Int) := by omega
        obtain ⟨p, hp⟩ : ∃ p, s + j = p := ⟨_, rfl⟩
        have w4 : (q : Int) + (j : Int) - (i : Int) = (p : Int) := by omega
        have hp1 : s + i ≤ p := by omega
        have hp2 : p + i ≤ b := by omega
        have hp3 : p + i ≤ q + j := by omega
        have Hp := Lib.hid hp
        clear hp
        go_wp2_with fail
        refine (swapRange_calls _ lb rfl cap n db m s p i d' _ HI.out hp1 (by omega) hm).mono ?_
        rintro e w' ⟨rfl, hS⟩
        have hS2 := Sorting.step HM.out hS has hp2
        have HF := Lib.hid (hS2.imp (Q := fun d1 => ∀ d'', Turned s q (q + (j - i)) d1 d'' → Turned a q b d d'') (fun e he d'' ht => HR.out d'' (by
          have h1 := Hq.out
          have h2 := Hp.out
          subst h1 h2
          refine rot2 (by omega) he ?_
          rwa [show s + i + (j - i) = s + j by omega] at ht)))
        clear hS hS2 w3 w4
        go_wp2_with fail
        go_roundg (i + (j - i))
        case measure => omega
        case rel => exact ⟨s, i, j - i, rfl, by congr 1; omega, by omega, has, by omega, hip, by omega, rfl, HF.out⟩

end Go.Proofs.Ytghmjconljdapaa
