/- The walk over lost. -/
import Derived.Test.YtghmjconljdapaaH
namespace Go.Proofs.Ytghmjconljdapaa
open Go.RowKit

def txC (x : Tx) (rv wv : Value) : Array Value := #[.int .u64 x.s, .int .u64 x.t, rv, wv]

def LostRel (xs : List Tx) (w0 : World) (g : Nat) (i : Value) (wr : World) : Prop :=
  ∃ n : Nat, i = .int .i64 n ∧ n ≤ xs.length ∧ g = xs.length - n ∧ UpTo (lostI xs) xs n ∧ Below w0.heap.size w0 wr

def LostIn (xs : List Tx) (n : Nat) (x : Tx) (cs : Array Value) (B : Nat) (w0 : World) (g : Nat) (i : Value) (wr : World) : Prop :=
  ∃ k : Nat, i = .int .i64 k ∧ k ≤ xs.length ∧ g = xs.length - k ∧ UpTo (lostJ n x) xs k ∧ Blk wr B 34 cs ∧ Below w0.heap.size w0 wr

def LostInner (n k : Nat) (x y : Tx) (cs ds : Array Value) (B D : Nat) (w0 : World) (g : Nat) (i : Value) (wr : World) : Prop :=
  ∃ p : Nat, i = .int .i64 p ∧ p ≤ x.ws.length ∧ g = x.ws.length - p ∧ UpTo (fun _ m => lostM n k y m) x.ws p ∧ Blk wr B 34 cs ∧ Blk wr D 34 ds ∧ Below w0.heap.size w0 wr

theorem lost_hit {xs : List Tx} {n k p : Nat} {x y : Tx} {m : Mt} (h1 : UpTo (lostI xs) xs n) (hx : xs[n]? = some x) (h2 : UpTo (lostJ n x) xs k) (hy : xs[k]? = some y) (hc : ¬ (y.t ≤ x.s ∨ x.t ≤ y.t))
    (h3 : UpTo (fun _ m => lostM n k y m) x.ws p) (hm : x.ws[p]? = some m) (hw : (wroteOf m.k y.ws).isSome = true) : lostOf xs = some ⟨2, n, k, m.k⟩ := by
  refine h1.hit hx (h2.hit hy ?_)
  unfold lostJ
  rw [if_neg hc]
  refine h3.hit hm ?_
  unfold lostM
  rw [if_pos hw]

set_option maxRecDepth 100000 in
set_option maxHeartbeats 4000000 in
theorem lost_calls (ao : Option Addr) (c : Nat) (xs : List Tx) (w : World) (h : RowOf TxAt w ao xs.length xs) (hs : Sized xs) :
    Calls Try.prog 17 #[.slice ao xs.length c] w (Found (lostOf xs) w) := by
  have hlen := hs.len
  have HS := Lib.hid hs
  have H := Lib.hid h
  clear h hs
  go_enter Try.func17, Try.ntmps17
  go_wp2_with fail
  go_loopg [12] xs.length (fun g i wr => LostRel xs w g i wr)
  case atStart => exact ⟨0, rfl, by omega, by omega, UpTo.zero _ _, Below.refl _ _⟩
  case round =>
    obtain ⟨n, rfl, hn, rfl, hup, hb⟩ := hrel
    obtain ⟨w1, hw1⟩ : ∃ w1, w1 = wr := ⟨_, rfl⟩
    subst hw1
    have Hup := Lib.hid hup
    have hsz := hb.size
    clear hup
    by_cases hlt : n < xs.length
    · obtain ⟨b, off, x, rfl, hblt, hx, e0, e1, ⟨ra, rc, e2, h3⟩, wa, wc, e4, h5⟩ := H.out.get hlt
      rw [← hb.cell (by exact hblt)] at e0 e1 e2 e4
      have hxw := HS.out.ws x (List.mem_of_getElem? hx)
      have H5 := Lib.hid (mts_below h5 hb)
      have Hx := Lib.hid hx
      have hlti : (n : Int) < (xs.length : Int) := by omega
      have Hb := Lib.hid hb
      clear hx h3 h5 hb
      go_wp2_with fail
      clear e0 e1 e2 e4
      go_loopg [19] xs.length (fun g i w2 => LostIn xs n x #[.int .u64 x.s, .int .u64 x.t, .slice ra x.rs.length rc, .slice wa x.ws.length wc] w1.heap.size w1 g i w2)
      case atStart => exact ⟨0, rfl, by omega, by omega, UpTo.zero _ _, Blk.new _ _ _, new1 _ _⟩
      case round =>
        obtain ⟨k, rfl, hk, rfl, hup2, hX, hb1⟩ := hrel
        obtain ⟨w2, hw2⟩ : ∃ w2, w2 = wr := ⟨_, rfl⟩
        subst hw2
        have Hup2 := Lib.hid hup2
        have hsz1 := hb1.size
        have hXlt := hX.lt
        have x0 : w2.cell? ⟨w1.heap.size, 0, none⟩ = some (.int .u64 x.s) := hX.cell 0
        have x1 : w2.cell? ⟨w1.heap.size, 1, none⟩ = some (.int .u64 x.t) := hX.cell 1
        have x3 : w2.cell? ⟨w1.heap.size, 3, none⟩ = some (.slice wa x.ws.length wc) := hX.cell 3
        have HX := Lib.hid hX
        have Hb1 := Lib.hid hb1
        clear hup2 hX hb1
        by_cases hlt2 : k < xs.length
        · obtain ⟨b', off', y, hbo, hblt', hy, f0, f1, ⟨ra2, rc2, f2, g3⟩, wa2, wc2, f4, g5⟩ := H.out.get hlt2
          simp only [Option.some.injEq, Addr.mk.injEq, and_true] at hbo
          obtain ⟨rfl, rfl⟩ := hbo
          have hb2 := then_ Hb.out (Nat.le_refl _) Hb1.out
          rw [← hb2.cell (by exact hblt')] at f0 f1 f2 f4
          have hyw := HS.out.ws y (List.mem_of_getElem? hy)
          have G5 := Lib.hid (mts_below g5 hb2)
          have Hy := Lib.hid hy
          have hlti2 : (k : Int) < (xs.length : Int) := by omega
          have Hb2 := Lib.hid hb2
          clear hy g3 g5 hb2
          by_cases hc : y.t ≤ x.s ∨ x.t ≤ y.t
          · have Hn := Lib.hid (Hup2.out.succ Hy.out (show lostJ n x k y = none by unfold lostJ; rw [if_pos hc]))
            by_cases hc1 : y.t ≤ x.s
            · clear hc
              go_wp2_with fail
              go_roundg (xs.length - (k + 1))
              case measure => omega
              case rel => exact ⟨k + 1, by go_num, by omega, rfl, Hn.out, HX.out.alloc _, up1 Hb1.out (Nat.le_refl _) _⟩
            · have hc2 : x.t ≤ y.t := by omega
              clear hc
              go_wp2_with fail
              go_roundg (xs.length - (k + 1))
              case measure => omega
              case rel => exact ⟨k + 1, by go_num, by omega, rfl, Hn.out, HX.out.alloc _, up1 Hb1.out (Nat.le_refl _) _⟩
          · have hc1 : ¬ y.t ≤ x.s := fun h => hc (.inl h)
            have hc2 : ¬ x.t ≤ y.t := fun h => hc (.inr h)
            have Hc := Lib.hid hc
            clear hc
            go_wp2_with fail
            clear f0 f1 f2 f4 x0 x1 x3
            go_loopg [39] x.ws.length (fun g i w3 => LostInner n k x y #[.int .u64 x.s, .int .u64 x.t, .slice ra x.rs.length rc, .slice wa x.ws.length wc] #[.int .u64 y.s, .int .u64 y.t, .slice ra2 y.rs.length rc2, .slice wa2 y.ws.length wc2] w1.heap.size w2.heap.size w2 g i w3)
            case atStart => exact ⟨0, rfl, by omega, by omega, UpTo.zero _ _, HX.out.alloc _, Blk.new _ _ _, new1 _ _⟩
            case round =>
              obtain ⟨p, rfl, hp, rfl, hup3, hX3, hY3, hb3⟩ := hrel
              have Hup3 := Lib.hid hup3
              have hsz3 := hb3.size
              have y0 : wr.cell? ⟨w2.heap.size, 0, none⟩ = some (.int .u64 y.s) := hY3.cell 0
              have y1 : wr.cell? ⟨w2.heap.size, 1, none⟩ = some (.int .u64 y.t) := hY3.cell 1
              have y2 : wr.cell? ⟨w2.heap.size, 2, none⟩ = some (.slice ra2 y.rs.length rc2) := hY3.cell 2
              have y3 : wr.cell? ⟨w2.heap.size, 3, none⟩ = some (.slice wa2 y.ws.length wc2) := hY3.cell 3
              have hYlt := hY3.lt
              have hXlt3 := hX3.lt
              have HX3 := Lib.hid hX3
              have HY3 := Lib.hid hY3
              have Hb3 := Lib.hid hb3
              clear hup3 hX3 hY3 hb3
              by_cases hlt3 : p < x.ws.length
              · have hb13 := then_ Hb1.out (Nat.le_refl _) Hb3.out
                obtain ⟨b3, off3, m, rfl, hblt3, hm, m0, m1, m2⟩ := H5.out.get hlt3
                rw [← hb13.cell (by exact hblt3)] at m0 m1 m2
                have Hm := Lib.hid hm
                have hlti3 : (p : Int) < (x.ws.length : Int) := by omega
                clear hm hb13
                go_wp2_with fail
                refine (wrote_calls _ _ _ _ _ y.ws m.k _ (mts_below G5.out (up1 Hb3.out (Nat.le_refl _) _)) (by unfold maxLen; omega) _ _ _ rfl).mono ?_
                rintro e w4 ⟨rfl, hb4⟩
                have hs4 := hb4.size
                simp at hs4
                have hl4 : wr.heap.size < w4.heap.size := by omega
                have hbb : Below wr.heap.size wr w4 := then_ (new1 _ _) (Nat.le_refl _) hb4
                have HX4 := Lib.hid (HX3.out.below hbb hXlt3)
                have HY4 := Lib.hid (HY3.out.below hbb hYlt)
                have hM4 := (Blk.new wr 40 #[.string m.k, .int .i64 m.c, .string m.v]).below hb4 (by simp)
                have k0 : w4.cell? ⟨wr.heap.size, 0, none⟩ = some (.string m.k) := hM4.cell 0
                have Hb4 := Lib.hid (then_ Hb3.out (Nat.le_refl _) hbb)
                clear hbb hM4 hb4
                unfold mtV
                generalize hwo : wroteOf m.k y.ws = wo
                cases wo with
                | none =>
                  have Hn := Lib.hid (Hup3.out.succ Hm.out (show lostM n k y m = none by unfold lostM; rw [hwo]; rfl))
                  clear hwo
                  go_wp2_with fail
                  go_roundg (x.ws.length - (p + 1))
                  case measure => omega
                  case rel => exact ⟨p + 1, by go_num, by omega, rfl, Hn.out, HX4.out.alloc _, HY4.out.alloc _, up1 Hb4.out (Nat.le_refl _) _⟩
                | some u =>
                  have Hf := Lib.hid (lost_hit Hup.out Hx.out Hup2.out Hy.out Hc.out Hup3.out Hm.out (by rw [hwo]; rfl))
                  clear hwo
                  go_wp2_with fail
                  exact ⟨rfl, up1 (then_ Hb2.out (Nat.le_refl _) Hb4.out) (Nat.le_refl _) _, .inr ⟨_, Hf.out, rfl⟩⟩
              · obtain rfl : p = x.ws.length := by omega
                have Hn := Lib.hid (Hup2.out.succ Hy.out (show lostJ n x k y = none by unfold lostJ; rw [if_neg Hc.out]; exact Hup3.out.all))
                go_wp2_with fail
                go_roundg (xs.length - (k + 1))
                case measure => omega
                case rel => exact ⟨k + 1, by go_num, by omega, rfl, Hn.out, HX3.out, then_ Hb1.out (Nat.le_refl _) Hb3.out⟩
        · obtain rfl : k = xs.length := by omega
          have Hn := Lib.hid (Hup.out.succ Hx.out (show lostI xs n x = none from Hup2.out.all))
          go_wp2_with fail
          go_roundg (xs.length - (n + 1))
          case measure => omega
          case rel => exact ⟨n + 1, by go_num, by omega, rfl, Hn.out, then_ Hb.out (Nat.le_refl _) Hb1.out⟩
    · obtain rfl : n = xs.length := by omega
      have Hf := Lib.hid Hup.out.all
      have Hb := Lib.hid hb
      clear hb
      go_wp2_with fail
      first | go_end0 | refine bodyPost_ret (results_none rfl _ _ _) rfl ?_
      exact ⟨Hb.out, .inl ⟨Hf.out, rfl⟩⟩

end Go.Proofs.Ytghmjconljdapaa
