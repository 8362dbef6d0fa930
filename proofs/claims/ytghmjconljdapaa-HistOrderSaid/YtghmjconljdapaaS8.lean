/- The walk over the stable sort, of at most 41 numbers. -/
import Derived.Test.YtghmjconljdapaaS6
import Derived.Test.YtghmjconljdapaaU
namespace Go.Proofs.Ytghmjconljdapaa
open Go.RowKit

theorem Moved.kd_out {xs : List Tx} {a b m : Nat} {d d' : Nat → Int} (h : Moved a b m d d') {k : Nat} (hk : k < a ∨ b ≤ k) : kd xs d' k = kd xs d k := by
  unfold kd; rw [h.out k hk]

/-- Of the first n, the blocks of 20 are each in order. -/
def Run20 (f : Nat → Int) (n : Nat) : Prop := ∀ i j, i ≤ j → j < n → i / 20 = j / 20 → f i ≤ f j
def Run40 (f : Nat → Int) (n : Nat) : Prop := ∀ i j, i ≤ j → j < n → i / 40 = j / 40 → f i ≤ f j

theorem run20_more {xs : List Tx} {d d' : Nat → Int} {k b m : Nat} (h : Run20 (kd xs d) (20 * k)) (hm : Moved (20 * k) b m d d') (hu : Upto (kd xs d') (20 * k) b) (hb : b ≤ 20 * k + 20) : Run20 (kd xs d') b := by
  intro i j hij hj he
  by_cases h1 : j < 20 * k
  · rw [hm.kd_out (.inl (by omega)), hm.kd_out (.inl h1)]
    exact h i j hij h1 he
  · exact hu.le (by omega) hij hj

theorem run20_upto {f : Nat → Int} {n a b : Nat} (h : Run20 f n) (hb : b ≤ n) (ha : a / 20 * 20 = a) (hab : b ≤ a + 20) : Upto f a b := by
  intro i j h1 h2 h3
  exact h i j (by omega) (by omega) (by omega)

theorem run40_more {xs : List Tx} {d d' : Nat → Int} {k b m : Nat} (h : Run40 (kd xs d) (40 * k)) (hm : Moved (40 * k) b m d d') (hu : Upto (kd xs d') (40 * k) b) (hb : b ≤ 40 * k + 40) : Run40 (kd xs d') b := by
  intro i j hij hj he
  by_cases h1 : j < 40 * k
  · rw [hm.kd_out (.inl (by omega)), hm.kd_out (.inl h1)]
    exact h i j hij h1 he
  · exact hu.le (by omega) hij hj

def StRel1 (w0 : World) (n db m : Nat) (xs : List Tx) (d : Nat → Int) (g : Nat) (u v : Value) (w : World) : Prop :=
  ∃ k A B : Nat, u = .int .i64 A ∧ v = .int .i64 B ∧ 20 * k = A ∧ B = A + 20 ∧ A ≤ m ∧ k ≤ 2 ∧ g = 3 - k ∧ Sorting w0 n db m 0 m d (fun d' => Run20 (kd xs d') A) w

/-- The second loop: blocks of 20, of 40, or all. -/
def StRel2 (w0 : World) (n db m : Nat) (xs : List Tx) (d : Nat → Int) (g : Nat) (u : Value) (w : World) : Prop :=
  ∃ s : Nat, u = .int .i64 s ∧ g = 80 - s ∧ ((s = 20 ∧ Sorting w0 n db m 0 m d (fun d' => Run20 (kd xs d') m) w) ∨ (s = 40 ∧ Sorting w0 n db m 0 m d (fun d' => Run40 (kd xs d') m) w) ∨ (s = 80 ∧ Sorting w0 n db m 0 m d (fun d' => Upto (kd xs d') 0 m) w))

def StRel3 (w0 : World) (n db m : Nat) (xs : List Tx) (d : Nat → Int) (g : Nat) (u v : Value) (w : World) : Prop :=
  ∃ k A B : Nat, u = .int .i64 A ∧ v = .int .i64 B ∧ 40 * k = A ∧ B = A + 40 ∧ A ≤ m ∧ k ≤ 1 ∧ g = 2 - k ∧ Sorting w0 n db m 0 m d (fun d' => Run40 (kd xs d') A ∧ ∀ a b, A ≤ a → b ≤ m → a / 20 * 20 = a → b ≤ a + 20 → Upto (kd xs d') a b) w

set_option maxRecDepth 100000 in
set_option maxHeartbeats 8000000 in
theorem sort_any {m : Nat} (hm : m ≤ 41) : SortOk m := by
  intro w0 ao n c lb xs X da cap db d w hin hda
  have HX := Lib.hid X
  have Hin := Lib.hid hin
  have Hda := Lib.hid hda
  clear X hin hda
  go_enter Try.func22, Try.ntmps22
  go_wp2_with fail
  go_loopg [7, 8] 3 (fun g u v wr => StRel1 w0 n db m xs d g u v wr)
  case atStart => exact ⟨0, 0, 20, rfl, rfl, rfl, rfl, by omega, by omega, rfl, d, Moved.refl _ _ _ _, Hin.out, fun i j h1 h2 => by omega⟩
  case round =>
    obtain ⟨k, A, B, rfl, rfl, hA, hAB, hk, hk2, rfl, d', hmv, hin, hr⟩ := hrel
    have HM := Lib.hid hmv
    have HI := Lib.hid hin
    have HR := Lib.hid hr
    have HA := Lib.hid hA
    have HAB := Lib.hid hAB
    clear hmv hin hr hA hAB
    by_cases hbm : B ≤ m
    · have hbi : (B : Int) ≤ (m : Int) := by omega
      have hk1 : k + 1 ≤ 2 := by have := HA.out; have := HAB.out; omega
      go_wp2_with fail
      refine (insertion_calls HX.out da cap db m A B d' _ HI.out Hda.out (by have := HAB.out; omega) hbm (by omega)).mono ?_
      rintro e w1 ⟨rfl, hS⟩
      have HF := Lib.hid (show Sorting w0 n db m 0 m d (fun d2 => Run20 (kd xs d2) B) w1 from by
        obtain ⟨d2, h1, h2, h3⟩ := hS
        have ha := HA.out
        have hb := HAB.out
        subst ha hb
        exact ⟨d2, HM.out.trans (h1.wide (Nat.zero_le _) hbm), h2, run20_more HR.out h1 h3 (Nat.le_refl _)⟩)
      clear hS
      go_wp2_with fail
      go_roundg (3 - (k + 1))
      case measure => omega
      case rel => exact ⟨k + 1, B, B + 20, rfl, by go_num, by have := HA.out; have := HAB.out; omega, rfl, hbm, hk1, rfl, HF.out⟩
    · have hbi : ¬ (B : Int) ≤ (m : Int) := by omega
      go_wp2_with fail
      refine (insertion_calls HX.out da cap db m A m d' _ HI.out Hda.out hk (Nat.le_refl _) (by omega)).mono ?_
      rintro e w1 ⟨rfl, hS⟩
      have HF := Lib.hid (show Sorting w0 n db m 0 m d (fun d2 => Run20 (kd xs d2) m) w1 from by
        obtain ⟨d2, h1, h2, h3⟩ := hS
        have ha := HA.out
        have hb := HAB.out
        subst ha hb
        exact ⟨d2, HM.out.trans (h1.wide (Nat.zero_le _) (Nat.le_refl _)), h2, run20_more HR.out h1 h3 (by omega)⟩)
      clear hS
      go_wp2_with fail
      clear hbi hbm hk hk2 HA HAB HR HI HM
      go_loopg [6] 60 (fun g u wr => StRel2 w0 n db m xs d g u wr)
      case atStart => exact ⟨20, rfl, rfl, .inl ⟨rfl, HF.out⟩⟩
      case round =>
        obtain ⟨s, rfl, rfl, ⟨rfl, hS⟩ | ⟨rfl, hS⟩ | ⟨rfl, hS⟩⟩ := hrel
        · have HS := Lib.hid hS
          clear hS HF
          by_cases h20 : 20 < m
          · obtain rfl := Hda.out (by omega)
            have h20i : 20 < (m : Int) := by omega
            go_wp2_with fail
            go_loopg [7, 8] 2 (fun g u v wr => StRel3 w0 n db m xs d g u v wr)
            case atStart =>
              obtain ⟨d', h1, h2, h3⟩ := HS.out
              exact ⟨0, 0, 40, rfl, rfl, rfl, rfl, by omega, by omega, rfl, d', h1, h2, fun i j h1 h2 => by omega, fun a b _ k2 k3 k4 => run20_upto h3 k2 k3 k4⟩
            case round =>
              obtain ⟨k, A, B, rfl, rfl, hA, hAB, hk, hk2, rfl, d', hmv, hin, hr40, hr20⟩ := hrel
              have HM := Lib.hid hmv
              have HI := Lib.hid hin
              have HR := Lib.hid hr40
              have HR20 := Lib.hid hr20
              have HA := Lib.hid hA
              have HAB := Lib.hid hAB
              obtain ⟨C, hC⟩ : ∃ C, A + 20 = C := ⟨_, rfl⟩
              have wC : (A : Int) + 20 = (C : Int) := by omega
              have hAC : A < C := by omega
              have hCB : C < B := by omega
              have hA20 : A / 20 * 20 = A := by omega
              have hC20 : C / 20 * 20 = C := by omega
              have hC' : C ≤ A + 20 := by omega
              have hB' : B ≤ C + 20 := by omega
              have hB'' : B ≤ A + 40 := by omega
              clear hmv hin hr40 hr20 hA hAB hC
              by_cases hbm : B ≤ m
              · have hbi : (B : Int) ≤ (m : Int) := by omega
                have hk1 : k + 1 ≤ 1 := by have := HA.out; have := HAB.out; omega
                go_wp2_with fail
                refine (sym_calls HX.out cap db m (by omega) (B - A) A C B d' _ (Nat.le_refl _) HI.out hAC hCB hbm (HR20.out A C (Nat.le_refl _) (by omega) hA20 hC') (HR20.out C B (by omega) hbm hC20 hB')).mono ?_
                rintro e w2 ⟨rfl, hS⟩
                have HF := Lib.hid (show Sorting w0 n db m 0 m d (fun d' => Run40 (kd xs d') B ∧ ∀ a b, B ≤ a → b ≤ m → a / 20 * 20 = a → b ≤ a + 20 → Upto (kd xs d') a b) w2 from by
                  obtain ⟨d2, h1, h2, h3⟩ := hS
                  have ha := HA.out
                  subst ha
                  exact ⟨d2, HM.out.trans (h1.wide (Nat.zero_le _) hbm), h2, run40_more HR.out h1 h3 hB'', fun a b k1 k2 k3 k4 => (HR20.out a b (by omega) k2 k3 k4).out h1 (.inr k1)⟩)
                clear hS wC
                go_wp2_with fail
                go_roundg (2 - (k + 1))
                case measure => omega
                case rel => exact ⟨k + 1, B, B + 40, rfl, by go_num, by have := HA.out; have := HAB.out; omega, rfl, hbm, hk1, rfl, HF.out⟩
              · have hbi : ¬ (B : Int) ≤ (m : Int) := by omega
                by_cases hcm : C < m
                · have hci : (C : Int) < (m : Int) := by omega
                  go_wp2_with fail
                  refine (sym_calls HX.out cap db m (by omega) (m - A) A C m d' _ (Nat.le_refl _) HI.out hAC hcm (Nat.le_refl _) (HR20.out A C (Nat.le_refl _) (by omega) hA20 hC') (HR20.out C m (by omega) (Nat.le_refl _) hC20 (by omega))).mono ?_
                  rintro e w2 ⟨rfl, hS⟩
                  have HF := Lib.hid (show Sorting w0 n db m 0 m d (fun d' => Run40 (kd xs d') m) w2 from by
                    obtain ⟨d2, h1, h2, h3⟩ := hS
                    have ha := HA.out
                    subst ha
                    exact ⟨d2, HM.out.trans (h1.wide (Nat.zero_le _) (Nat.le_refl _)), h2, run40_more HR.out h1 h3 (by omega)⟩)
                  clear hS wC
                  go_wp2_with fail
                  go_roundg 40
                  case measure => omega
                  case rel => exact ⟨40, rfl, rfl, .inr (.inl ⟨rfl, HF.out⟩)⟩
                · have hci : ¬ (C : Int) < (m : Int) := by omega
                  have HF := Lib.hid (show Sorting w0 n db m 0 m d (fun d' => Run40 (kd xs d') m) wr from by
                    have ha := HA.out
                    subst ha
                    exact ⟨d', HM.out, HI.out, run40_more HR.out (Moved.refl (40 * k) m m d') (HR20.out (40 * k) m (Nat.le_refl _) (Nat.le_refl _) hA20 (by omega)) (by omega)⟩)
                  go_wp2_with fail
                  go_roundg 40
                  case measure => omega
                  case rel => exact ⟨40, rfl, rfl, .inr (.inl ⟨rfl, HF.out⟩)⟩
          · have h20i : ¬ 20 < (m : Int) := by omega
            have HF := Lib.hid (HS.out.imp (Q := fun d' => Upto (kd xs d') 0 m) (fun e he => run20_upto he (Nat.le_refl _) rfl (by omega)))
            go_wp2_with fail
            first | go_end0 | refine bodyPost_ret (results_none rfl _ _ _) rfl ?_
            exact ⟨rfl, HF.out⟩
        · have HS := Lib.hid hS
          clear hS HF
          by_cases h40 : 40 < m
          · obtain rfl := Hda.out (by omega)
            have h40i : 40 < (m : Int) := by omega
            have h80i : ¬ 80 ≤ (m : Int) := by omega
            obtain ⟨d', hmv, hin, hr⟩ := HS.out
            have HM := Lib.hid hmv
            have HI := Lib.hid hin
            have HR := Lib.hid hr
            clear hmv hin hr
            go_wp2_with fail
            go_loopg [7, 8] 0 (fun g u v w2 => u = .int .i64 0 ∧ v = .int .i64 80 ∧ wr = w2)
            case atStart => exact ⟨rfl, rfl, rfl⟩
            case round =>
              obtain ⟨rfl, rfl, rfl⟩ := hrel
              go_wp2_with fail
              refine (sym_calls HX.out cap db m (by omega) m 0 40 m d' _ (by omega) HI.out (by omega) h40 (Nat.le_refl _) (fun i j k1 k2 k3 => HR.out i j (by omega) (by omega) (by omega)) (fun i j k1 k2 k3 => HR.out i j (by omega) k3 (by omega))).mono ?_
              rintro e w2 ⟨rfl, hS⟩
              have HF := Lib.hid (Sorting.step HM.out hS (Nat.le_refl _) (Nat.le_refl _))
              clear hS
              go_wp2_with fail
              go_roundg 0
              case measure => omega
              case rel => exact ⟨80, rfl, rfl, .inr (.inr ⟨rfl, HF.out⟩)⟩
          · have h40i : ¬ 40 < (m : Int) := by omega
            have HF := Lib.hid (HS.out.imp (Q := fun d' => Upto (kd xs d') 0 m) (fun e he i j h1 h2 h3 => he i j (by omega) h3 (by omega)))
            go_wp2_with fail
            first | go_end0 | refine bodyPost_ret (results_none rfl _ _ _) rfl ?_
            exact ⟨rfl, HF.out⟩
        · have HS := Lib.hid hS
          clear hS HF
          have h80 : ¬ 80 < (m : Int) := by omega
          go_wp2_with fail
          first | go_end0 | refine bodyPost_ret (results_none rfl _ _ _) rfl ?_
          exact ⟨rfl, HS.out⟩

end Go.Proofs.Ytghmjconljdapaa
