/- The walk over Value. -/
import Derived.Test.YtghmjconljdapaaC
import Derived.StillTailTactics
namespace Go.Proofs.Ytghmjconljdapaa
open Go.RowKit

/-- A history of a size that is looked at. -/
structure Sized (l : List Tx) : Prop where
  len : l.length ≤ 100
  rs : ∀ x ∈ l, x.rs.length ≤ 100
  ws : ∀ x ∈ l, x.ws.length ≤ 100
  tn : ∀ x ∈ l, 0 ≤ x.t

def ValRel (key : ByteArray) (t : Int) (xs : List Tx) (w0 : World) (g : Nat) (best i : Value) (wr : World) : Prop :=
  ∃ n : Nat, i = .int .i64 n ∧ n ≤ xs.length ∧ g = xs.length - n ∧ best = .int .u64 (lastOf (xs.take n) key t).1 ∧
    Blk wr w0.heap.size 40 #[.string (mk (lastOf (xs.take n) key t).2), .int .i64 (mc (lastOf (xs.take n) key t).2), .string (mv (lastOf (xs.take n) key t).2)] ∧ Below w0.heap.size w0 wr

theorem last_snoc {xs : List Tx} {n : Nat} {x : Tx} (hx : xs[n]? = some x) (key : ByteArray) (t : Int) : lastOf (xs.take (n + 1)) key t = valStep key t (lastOf (xs.take n) key t) x := by
  have hlt := (List.getElem?_eq_some_iff.1 hx).1
  unfold lastOf
  rw [List.take_succ_eq_append_getElem hlt, (List.getElem?_eq_some_iff.1 hx).2, List.foldl_append]
  rfl

def LastInv (p : Int × Option Mt) : Prop := (p.2 = none → p.1 = 0) ∧ ∀ m, p.2 = some m → 0 < p.1

theorem LastInv.step {p : Int × Option Mt} (h : LastInv p) (key : ByteArray) (t : Int) (x : Tx) : LastInv (valStep key t p x) := by
  unfold valStep
  cases hw : wroteOf key x.ws with
  | none => exact h
  | some m =>
    simp only
    by_cases hc : p.1 < x.t ∧ x.t ≤ t
    · rw [if_pos hc]
      refine ⟨fun e => by simp at e, fun m' _ => ?_⟩
      obtain ⟨a, o⟩ := p
      cases o with
      | none => have := h.1 rfl; simp only at this hc ⊢; omega
      | some u => have := h.2 u rfl; simp only at this hc ⊢; omega
    · rw [if_neg hc]
      exact h

theorem last_inv (xs : List Tx) (key : ByteArray) (t : Int) : LastInv (lastOf xs key t) := by
  have h : ∀ (l : List Tx) (p : Int × Option Mt), LastInv p → LastInv (l.foldl (valStep key t) p) := by
    intro l
    induction l with
    | nil => intro p h; exact h
    | cons x l ih => exact fun p h => ih _ (h.step key t x)
  exact h xs (0, none) ⟨fun _ => rfl, fun m e => by cases e⟩

set_option maxRecDepth 100000 in
set_option maxHeartbeats 4000000 in
theorem value_calls (ao : Option Addr) (c : Nat) (xs : List Tx) (key : ByteArray) (t : Int) (w : World) (h : RowOf TxAt w ao xs.length xs) (hs : Sized xs) :
    Calls Try.prog 14 #[.slice ao xs.length c, .string key, .int .u64 t] w fun e w' =>
      e = .returned (.tuple #[.string ((valueOf xs key t).getD { data := #[] }), .bool (valueOf xs key t).isSome]) ∧ Below w.heap.size w w' := by
  have hlen := hs.len
  have HS := Lib.hid hs
  have H := Lib.hid h
  clear h hs
  go_enter Try.func14, Try.ntmps14
  go_wp2_with fail
  go_loopg [8, 16] xs.length (fun g best i wr => ValRel key t xs w g best i wr)
  case atStart => exact ⟨0, rfl, by omega, by omega, rfl, by simpa [lastOf, mk, mc, mv] using Blk.new w 40 #[.string { data := #[] }, .int .i64 0, .string { data := #[] }], new1 w _⟩
  case round =>
    obtain ⟨n, rfl, hn, rfl, rfl, hB, hb⟩ := hrel
    have hsz := hb.size
    by_cases hlt : n < xs.length
    · obtain ⟨b, off, x, rfl, hblt, hx, e0, e1, ⟨ra, rc, e2, h3⟩, wa, wc, e4, h5⟩ := H.out.get hlt
      rw [← hb.cell (by exact hblt)] at e0 e1 e2 e4
      have hsn := last_snoc hx key t
      have hxw := HS.out.ws x (List.mem_of_getElem? hx)
      obtain ⟨p, hp⟩ : ∃ p, lastOf (xs.take n) key t = p := ⟨_, rfl⟩
      rw [hp] at hsn hB
      have Hsn := Lib.hid hsn
      have Hp := Lib.hid hp
      rw [hp]
      have H5 := Lib.hid (mts_below h5 hb)
      have Hb := Lib.hid hb
      have HB := Lib.hid hB
      have hlti : (n : Int) < (xs.length : Int) := by omega
      have hBlt := hB.lt
      clear hx hp hsn h3 h5 hb hB
      go_wp2_with fail
      refine (wrote_calls _ _ _ _ _ x.ws key _ (mts_below H5.out (new1 _ _)) (by unfold maxLen; omega) _ _ _ rfl).mono ?_
      rintro e w2 ⟨rfl, hb2⟩
      have hb2' : Below wr.heap.size wr w2 := then_ (new1 _ _) (Nat.le_refl _) hb2
      have hB2 := HB.out.below hb2' (by omega)
      have hs2 := hb2.size
      simp at hs2
      have hl2 : wr.heap.size < w2.heap.size := by omega
      have hb2lt : w.heap.size < w2.heap.size := by omega
      have hX2 := (Blk.new wr 34 #[.int .u64 x.s, .int .u64 x.t, .slice ra x.rs.length rc, .slice wa x.ws.length wc]).below hb2 (by simp)
      have hbw := then_ Hb.out (Nat.le_refl _) hb2'
      clear hb2 hb2'
      cases hw : wroteOf key x.ws with
      | none =>
        have Hst := Lib.hid (show lastOf (xs.take (n + 1)) key t = p by rw [Hsn.out]; unfold valStep; rw [hw])
        have HB2 := Lib.hid hB2
        have Hbw := Lib.hid hbw
        clear hw hX2 hB2 hbw
        unfold mtV
        go_wp2_with fail
        go_roundg (xs.length - (n + 1))
        case measure => omega
        case rel => exact ⟨n + 1, by go_num, by omega, rfl, by rw [Hst.out], by rw [Hst.out]; exact HB2.out.alloc _, up1 Hbw.out (Nat.le_refl _) _⟩
      | some m =>
        have x1 : w2.cell? ⟨wr.heap.size, 1, none⟩ = some (.int .u64 x.t) := hX2.cell 1
        have Hw := Lib.hid hw
        have HB2 := Lib.hid hB2
        have Hbw := Lib.hid hbw
        clear hw hX2 hB2 hbw
        unfold mtV
        by_cases h1 : p.1 < x.t
        · by_cases h2 : x.t ≤ t
          · have Hst := Lib.hid (show lastOf (xs.take (n + 1)) key t = (x.t, some m) by rw [Hsn.out]; unfold valStep; rw [Hw.out]; simp only; rw [if_pos ⟨h1, h2⟩])
            obtain ⟨W, hW⟩ : ∃ W, w2.alloc (.cells #[.string (mk (some m)), .int .i64 (mc (some m)), .string (mv (some m))] 40) = W := ⟨_, rfl⟩
            have hBW : Blk W w.heap.size 40 #[.string (mk p.2), .int .i64 (mc p.2), .string (mv p.2)] := by rw [← hW]; exact HB2.out.alloc _
            have hMW : Blk W w2.heap.size 40 #[.string (mk (some m)), .int .i64 (mc (some m)), .string (mv (some m))] := by rw [← hW]; exact Blk.new _ _ _
            have y1 : W.cell? ⟨wr.heap.size, 1, none⟩ = some (.int .u64 x.t) := by rw [← hW]; exact (World.cell?_alloc_past _ _ _ hl2).trans x1
            have z0 : W.cell? ⟨w2.heap.size, 0, none⟩ = some (.string (mk (some m))) := hMW.cell 0
            have z1 : W.cell? ⟨w2.heap.size, 1, none⟩ = some (.int .i64 (mc (some m))) := hMW.cell 1
            have z2 : W.cell? ⟨w2.heap.size, 2, none⟩ = some (.string (mv (some m))) := hMW.cell 2
            have v0 : W.cell? ⟨w.heap.size, 0, none⟩ = some (.string (mk p.2)) := hBW.cell 0
            have v1 : W.cell? ⟨w.heap.size, 1, none⟩ = some (.int .i64 (mc p.2)) := hBW.cell 1
            have v2 : W.cell? ⟨w.heap.size, 2, none⟩ = some (.string (mv p.2)) := hBW.cell 2
            have f0 := hBW.frozen 0
            have f1 := hBW.frozen 1
            have f2 := hBW.frozen 2
            have hbW : Below w.heap.size w W := by rw [← hW]; exact up1 Hbw.out (Nat.le_refl _) _
            have HW := Lib.hid hW
            have HbW := Lib.hid hbW
            have HBW := Lib.hid hBW
            go_upto_region 8 with fail
            clear hW hbW hBW hMW
            go_still_tail 4, (by kernel_rfl)
            go_wp2_with fail
            go_roundg (xs.length - (n + 1))
            case measure => omega
            case rel =>
              exact ⟨n + 1, by go_num, by omega, rfl, by rw [Hst.out], by rw [Hst.out]; exact ((HBW.out.set 0 _).set 1 _).set 2 _, (((HbW.out.setCell (Nat.le_refl _) _).setCell (Nat.le_refl _) _).setCell (Nat.le_refl _) _).drew⟩
          · have Hst := Lib.hid (show lastOf (xs.take (n + 1)) key t = p by rw [Hsn.out]; unfold valStep; rw [Hw.out]; simp only; rw [if_neg (fun h => h2 h.2)])
            go_wp2_with fail
            go_roundg (xs.length - (n + 1))
            case measure => omega
            case rel => exact ⟨n + 1, by go_num, by omega, rfl, by rw [Hst.out], by rw [Hst.out]; exact HB2.out.alloc _, up1 Hbw.out (Nat.le_refl _) _⟩
        · have Hst := Lib.hid (show lastOf (xs.take (n + 1)) key t = p by rw [Hsn.out]; unfold valStep; rw [Hw.out]; simp only; rw [if_neg (fun h => h1 h.1)])
          go_wp2_with fail
          go_roundg (xs.length - (n + 1))
          case measure => omega
          case rel => exact ⟨n + 1, by go_num, by omega, rfl, by rw [Hst.out], by rw [Hst.out]; exact HB2.out.alloc _, up1 Hbw.out (Nat.le_refl _) _⟩
    · obtain rfl : n = xs.length := by omega
      rw [List.take_length] at hB ⊢
      have hinv := last_inv xs key t
      obtain ⟨p, hp⟩ : ∃ p, lastOf xs key t = p := ⟨_, rfl⟩
      rw [hp] at hB hinv ⊢
      have k1 : wr.cell? ⟨w.heap.size, 1, none⟩ = some (.int .i64 (mc p.2)) := hB.cell 1
      have k2 : wr.cell? ⟨w.heap.size, 2, none⟩ = some (.string (mv p.2)) := hB.cell 2
      have Hb := Lib.hid hb
      have Hp := Lib.hid hp
      clear hp hB hb
      obtain ⟨a, o⟩ := p
      cases o with
      | none =>
        obtain rfl : a = 0 := hinv.1 rfl
        have Hv := Lib.hid (show valueOf xs key t = none by unfold valueOf; rw [Hp.out])
        clear hinv
        simp only [mc] at k1
        go_wp2_with fail
        go_ret2
        exact ⟨by rw [Hv.out]; rfl, Hb.out⟩
      | some m =>
        have hpos : 0 < a := hinv.2 m rfl
        clear hinv
        simp only [mc, mv] at k1 k2
        by_cases h2 : m.c = 2
        · have Hv2 := Lib.hid (show valueOf xs key t = none by unfold valueOf; rw [Hp.out]; simp only; rw [if_pos h2])
          rw [h2] at k1
          clear h2
          go_wp2_with fail
          go_ret2
          exact ⟨by rw [Hv2.out]; rfl, Hb.out⟩
        · have Hv2 := Lib.hid (show valueOf xs key t = some m.v by unfold valueOf; rw [Hp.out]; simp only; rw [if_neg h2])
          have hne : (m.c == 2) = false := by simpa using h2
          have hz : (a == 0) = false := by simp; omega
          go_wp2_with fail
          go_ret2
          exact ⟨by rw [Hv2.out]; rfl, Hb.out⟩
end Go.Proofs.Ytghmjconljdapaa
