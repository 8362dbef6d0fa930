/- The walk over HistFaults. -/
import Derived.Test.YtghmjconljdapaaX
import Derived.Deep.RegionHeld3
namespace Go.Proofs.Ytghmjconljdapaa
open Go.RowKit

theorem list_beq (a b : ByteArray) : (a.toList == b.toList) = decide (a = b) := by rw [← beq_toListBytes, bytes_beq]

/-- A read that is told to be wrong. -/
def hitR (key : ByteArray) (vo : Option ByteArray) (r : Rd) : Bool :=
  (r.k.toList == key.toList) && ((r.i != vo.isSome) || (vo.isSome && !(r.v.toList == (vo.getD { data := #[] }).toList)))

theorem hit_of_bad {l : List Tx} {x : Tx} {r : Rd} (h : badR l x r = true) : hitR r.k (valueOf l r.k x.s) r = true := by
  unfold badR at h
  unfold hitR
  rw [beq_self_eq_true, Bool.true_and]
  rw [Bool.or_eq_true, Bool.and_eq_true] at h ⊢
  rcases h with h | ⟨h1, h2⟩
  · left
    rw [bne_iff_ne] at h ⊢
    exact fun e => h e.symm
  · right
    refine ⟨h1, ?_⟩
    rw [Bool.not_eq_true', beq_eq_false_iff_ne] at h2 ⊢
    exact fun e => h2 e.symm

def cntK (key : ByteArray) (ws : List Mt) : Nat := ws.countP fun m => m.k.toList == key.toList

theorem cnt_zero {key : ByteArray} : ∀ {ws : List Mt}, key ∉ ws.map (·.k) → cntK key ws = 0 := by
  intro ws h
  unfold cntK
  rw [List.countP_eq_zero]
  intro a ha e
  rw [list_beq, decide_eq_true_eq] at e
  exact h (e ▸ List.mem_map.2 ⟨a, ha, rfl⟩)

theorem cnt_one {key : ByteArray} : ∀ {ws : List Mt}, (ws.map (·.k)).Nodup → key ∈ ws.map (·.k) → cntK key ws = 1 := by
  intro ws
  induction ws with
  | nil => intro _ h; simp at h
  | cons a ws ih =>
    intro hn hm
    rw [List.map_cons, List.nodup_cons] at hn
    rw [List.map_cons, List.mem_cons] at hm
    unfold cntK
    rw [List.countP_cons]
    by_cases e : key = a.k
    · subst e
      have := cnt_zero hn.1
      unfold cntK at this
      rw [this]
      simp
    · have h1 : key ∈ ws.map (·.k) := by
        rcases hm with hm | hm
        · exact absurd hm e
        · exact hm
      have := ih hn.2 h1
      unfold cntK at this
      rw [this, list_beq, if_neg (by simp; exact fun h => e h.symm)]

theorem cnt_snoc {ws : List Mt} {n : Nat} {m : Mt} (hm : ws[n]? = some m) (key : ByteArray) : cntK key (ws.take (n + 1)) = cntK key (ws.take n) + if (m.k.toList == key.toList) = true then 1 else 0 := by
  unfold cntK
  rw [take_snoc' hm, List.countP_append, List.countP_singleton]

theorem cnt_le (key : ByteArray) (ws : List Mt) : cntK key ws ≤ ws.length := List.countP_le_length

theorem may_keys {l : List Tx} (h : mayL l = true) {i : Nat} {x : Tx} (hx : l[i]? = some x) : (x.ws.map (·.k)).Nodup :=
  ((wsB_iff x.ws).1 ((mayB_iff x).1 (((mayL_iff l).1 h).1 x (List.mem_of_getElem? hx))).2.2.2.2).2

theorem wrote_mem {key : ByteArray} {ws : List Mt} (h : (wroteOf key ws).isSome = true) : key ∈ ws.map (·.k) := by
  unfold wroteOf at h
  rw [List.find?_isSome] at h
  obtain ⟨m, hm, he⟩ := h
  rw [list_beq, decide_eq_true_eq] at he
  exact List.mem_map.2 ⟨m, hm, he⟩

def HitRel (key : ByteArray) (vo : Option ByteArray) (rs : List Rd) (w0 : World) (g : Nat) (i : Value) (wr : World) : Prop :=
  ∃ n : Nat, i = .int .i64 n ∧ n ≤ rs.length ∧ g = rs.length - n ∧ Small (hitR key vo) rs n ∧ Below w0.heap.size w0 wr

def CntRel (key : ByteArray) (ws : List Mt) (c0 : Nat) (w0 : World) (g : Nat) (u i : Value) (wr : World) : Prop :=
  ∃ n : Nat, i = .int .i64 n ∧ n ≤ ws.length ∧ g = ws.length - n ∧ u = .int .i64 ((c0 + cntK key (ws.take n) : Nat)) ∧ Below w0.heap.size w0 wr

def AfterTwo (x y : Tx) (W : World) (wa wa2 : Option Addr) (wc wc2 : Nat) (u v : Value) (w3 : World) : Prop :=
  ∃ b1 b2 r1 r2, u = .pointer (some ⟨b1, 0, none⟩) ∧ v = .pointer (some ⟨b2, 0, none⟩) ∧ Blk w3 b1 34 #[.int .u64 x.s, .int .u64 x.t, r1, .slice wa x.ws.length wc] ∧ Blk w3 b2 34 #[.int .u64 y.s, .int .u64 y.t, r2, .slice wa2 y.ws.length wc2] ∧ Below W.heap.size W w3

def AfterVal (W : World) (vo : Option ByteArray) (v u : Value) (w3 : World) : Prop :=
  v = .string (vo.getD { data := #[] }) ∧ u = .bool vo.isSome ∧ Below W.drew.heap.size W.drew w3

set_option maxRecDepth 100000 in
set_option maxHeartbeats 8000000 in
theorem faults_calls (ao : Option Addr) (c : Nat) (xs : List Tx) (w : World) (h : RowOf TxAt w ao xs.length xs) (hn : ∀ x ∈ xs, 0 ≤ x.t) :
    Calls Try.prog 7 #[.slice ao xs.length c] w fun e w' => e = .returned (.bool true) ∧ Below w.heap.size w w' := by
  have H := Lib.hid h
  have Hn := Lib.hid hn
  clear h hn
  go_enter Try.func7, Try.ntmps7
  go_wp2_with fail
  refine (awake_calls _).mono ?_
  rintro e w1 ⟨rfl, hb1⟩
  have H1 := Lib.hid (txs_below H.out hb1)
  have Hb1 := Lib.hid hb1
  clear hb1
  go_wp2_with fail
  refine (large_calls _ _ xs _ H1.out).mono ?_
  rintro e w1 ⟨rfl, rfl⟩
  cases hl : largeL xs with
  | true =>
    clear hl
    go_wp2_with fail
    go_ret
    exact ⟨rfl, Hb1.out⟩
  | false =>
    obtain ⟨hsz, h40⟩ := sized_of hl Hn.out
    have HS := Lib.hid hsz
    clear hl hsz
    go_wp2_with fail
    refine (look_calls _ _ xs _ H1.out HS.out).mono ?_
    rintro e w2 ⟨rfl, hb2⟩
    have H2 := Lib.hid (txs_below H1.out hb2)
    have Hb2 := Lib.hid (then_ Hb1.out (Nat.le_refl _) hb2)
    clear hb2
    rcases look_ways xs with ⟨hm, hf, he⟩ | ⟨hm, he, ⟨hs, hl, hf⟩ | ⟨f, hs, hf⟩ | ⟨f, hs, hl, hf⟩⟩
    · rw [hf, he]
      have Hm := Lib.hid hm
      clear hm hf he
      unfold fltV noFlt
      go_wp2_with fail
      refine (mayL_calls _ _ xs _ (txs_below H2.out (new1 _ _)) HS.out).mono ?_
      rintro e w3 ⟨rfl, hb3⟩
      rw [Hm.out]
      have Hb3 := Lib.hid (then_ (up1 Hb2.out (Nat.le_refl _) _) (Nat.le_refl _) hb3)
      clear hb3
      go_wp2_with fail
      go_ret
      exact ⟨rfl, Hb3.out⟩
    · rw [hf, he]
      clear hm hf he hs hl
      unfold fltV noFlt
      go_wp2_with fail
      go_ret
      exact ⟨rfl, up1 Hb2.out (Nat.le_refl _) _⟩
    · obtain ⟨i, x, r, hx, ht, hr, hbad, rfl⟩ := stale_kind hs
      rw [hf, he]
      have hi := (List.getElem?_eq_some_iff.1 hx).1
      have Hbad := Lib.hid (hit_of_bad hbad)
      have Hr := Lib.hid hr
      have Hx := Lib.hid hx
      have htb : (x.t == 0) = false := by simpa using ht
      clear hm hf he hs ht hr hbad hx
      obtain ⟨b, off, x', rfl, hblt, hx', e0, e1, ⟨ra, rc, e2, g3⟩, wa, wcap, e4, g5⟩ := H2.out.get hi
      obtain rfl : x = x' := Option.some.inj (Hx.out.symm.trans hx')
      have G3 := Lib.hid g3
      have hii : (i : Int) < (xs.length : Int) := by omega
      clear hx' g3 g5
      unfold fltV
      obtain ⟨W, hW⟩ : ∃ W, w2.alloc (.cells #[.int .i64 1, .int .i64 i, .int .i64 0, .string r.k] 27) = W := ⟨_, rfl⟩
      have hB : Blk W w2.heap.size 27 #[.int .i64 1, .int .i64 i, .int .i64 0, .string r.k] := by rw [← hW]; exact Blk.new _ _ _
      have hbW : Below w2.heap.size w2 W := by rw [← hW]; exact new1 _ _
      have hWs : w2.heap.size < W.heap.size := by rw [← hW]; simp
      have k0 : W.cell? ⟨w2.heap.size, 0, none⟩ = some (.int .i64 1) := hB.cell 0
      have k1 : W.cell? ⟨w2.heap.size, 1, none⟩ = some (.int .i64 i) := hB.cell 1
      have k3 : W.cell? ⟨w2.heap.size, 3, none⟩ = some (.string r.k) := hB.cell 3
      rw [← hbW.cell (by exact hblt)] at e0 e1 e2 e4
      have HB := Lib.hid hB
      have HbW := Lib.hid (then_ Hb2.out (Nat.le_refl _) hbW)
      have HW := Lib.hid (txs_below H2.out hbW)
      have GW := Lib.hid (rds_below G3.out hbW)
      clear hB hbW
      have hbl : b < W.heap.size := by omega
      go_upto_region 14 with fail
      clear hW
      generalize hvo : valueOf xs r.k x.s = vo
      rw [hvo] at Hbad
      have Hvo := Lib.hid hvo
      clear hvo
      go_cut [5, 6] (fun v u w3 => AfterVal W vo v u w3)
      case first =>
        go_region_held3 (fun w' => w'.cell? ⟨w2.heap.size, 1, none⟩ = some (.int .i64 i) ∧ w'.cell? ⟨w2.heap.size, 3, none⟩ = some (.string r.k) ∧ w'.cell? ⟨b, off + i * 4, none⟩ = some (.int .u64 x.s))
          (first | exact ⟨k1, k3, e0⟩ | exact ⟨m1, m3, m4⟩ | go_keep)
          (first
          | (go_at_call 14; refine (value_calls _ _ xs r.k x.s _ (HW.out.below (At := TxAt) (fun _ _ _ _ _ _ h => TxAt.below h) (Below.refl _ _).drew) HS.out).mono ?_; rintro e w3 ⟨rfl, hb3⟩; rw [Hvo.out]; have m1 : w3.cell? ⟨w2.heap.size, 1, none⟩ = some (.int .i64 i) := ((HB.out.drewN 1).on hb3).cell 1; have m3 : w3.cell? ⟨w2.heap.size, 3, none⟩ = some (.string r.k) := ((HB.out.drewN 1).on hb3).cell 3; have m4 : w3.cell? ⟨b, off + i * 4, none⟩ = some (.int .u64 x.s) := (hb3.cell (p := ⟨b, off + i * 4, none⟩) hbl).trans e0; have Hb3 := Lib.hid hb3; clear hb3))
        all_goals go_wp2_with fail
        all_goals go_meet
        all_goals exact ⟨rfl, rfl, Hb3.out⟩
      case rest =>
      obtain ⟨w3, hw3⟩ : ∃ w3, w3 = wc := ⟨_, rfl⟩
      subst hw3
      obtain ⟨rfl, rfl, hb3⟩ := hcut
      have HB3 := Lib.hid ((HB.out.drewN 1).on hb3)
      have Hb3 := Lib.hid (then_ HbW.out.drew (Nat.le_refl _) hb3)
      have GW3 := Lib.hid (rds_below (rds_below GW.out (Below.refl _ _).drew) hb3)
      have j1 : w3.cell? ⟨w2.heap.size, 1, none⟩ = some (.int .i64 i) := HB3.out.cell 1
      have j3 : w3.cell? ⟨w2.heap.size, 3, none⟩ = some (.string r.k) := HB3.out.cell 3
      have hcw : w3.cell? ⟨b, off + i * 4 + 2, none⟩ = some (.slice ra x.rs.length rc) := by
        have := hb3.cell (p := ⟨b, off + i * 4 + 2, none⟩) hbl
        rw [this]
        exact e2
      have hxr := HS.out.rs x (List.mem_of_getElem? Hx.out)
      clear hb3 e0 e1 e2 e4 k0 k1 k3
      go_wp2_with fail
      clear hcw j1 j3
      go_loopg [83] x.rs.length (fun g iv wr => HitRel r.k vo x.rs w3 g iv wr)
      case atStart => exact ⟨0, rfl, by omega, by omega, Small.zero _ _, Below.refl _ _⟩
      case round =>
        obtain ⟨n, rfl, hn, rfl, hsm, hb⟩ := hrel
        have Hsm := Lib.hid hsm
        have Hb := Lib.hid hb
        clear hsm hb
        by_cases hlt : n < x.rs.length
        · obtain ⟨b2, off2, q, rfl, hblt2, hq, f0, f1, f2⟩ := GW3.out.get hlt
          rw [← Hb.out.cell (by exact hblt2)] at f0 f1 f2
          have Hq := Lib.hid hq
          have hlti : (n : Int) < (x.rs.length : Int) := by omega
          have hBr := HB3.out.on Hb.out
          have hBl := hBr.lt
          have j3 : wr.cell? ⟨w2.heap.size, 3, none⟩ = some (.string r.k) := hBr.cell 3
          have Hbn := Lib.hid (up1 Hb.out (Nat.le_refl _) (.cells #[.string q.k, .string q.v, .bool q.i] 48))
          clear hq hBr
          by_cases hk : (q.k.toList == r.k.toList) = true
          · have hh : hitR r.k vo q = ((q.i != vo.isSome) || (vo.isSome && !(q.v.toList == (vo.getD { data := #[] }).toList))) := by unfold hitR; rw [hk, Bool.true_and]
            cases hqi : q.i with
            | false =>
              rw [hqi] at f2 hh Hbn
              cases vo with
              | none =>
                  have Hno := Lib.hid (Hsm.out.succ Hq.out (by rw [hh]; rfl))
                  clear hh
                  go_wp2_with fail
                  go_roundg (x.rs.length - (n + 1))
                  case measure => omega
                  case rel => exact ⟨n + 1, by go_num, by omega, rfl, Hno.out, Hbn.out⟩
              | some v =>
                  clear hh
                  go_wp2_with fail
                  go_ret
                  exact ⟨rfl, then_ Hb3.out (Nat.le_refl _) Hbn.out⟩
            | true =>
              rw [hqi] at f2 hh Hbn
              cases vo with
              | none =>
                  clear hh
                  go_wp2_with fail
                  go_ret
                  exact ⟨rfl, then_ Hb3.out (Nat.le_refl _) Hbn.out⟩
              | some v =>
                by_cases hv : (q.v.toList == v.toList) = true
                · have Hno := Lib.hid (Hsm.out.succ Hq.out (by rw [hh]; simp only [Option.isSome_some, Option.getD_some, hv]; rfl))
                  clear hh
                  go_wp2_with fail
                  go_roundg (x.rs.length - (n + 1))
                  case measure => omega
                  case rel => exact ⟨n + 1, by go_num, by omega, rfl, Hno.out, Hbn.out⟩
                · have hv' : (q.v.toList == v.toList) = false := by simpa using hv
                  clear hh hv
                  go_wp2_with fail
                  go_ret
                  exact ⟨rfl, then_ Hb3.out (Nat.le_refl _) Hbn.out⟩
          · have hk' : (q.k.toList == r.k.toList) = false := by simpa using hk
            have Hno := Lib.hid (Hsm.out.succ Hq.out (by unfold hitR; rw [hk']; rfl))
            clear hk
            go_wp2_with fail
            go_roundg (x.rs.length - (n + 1))
            case measure => omega
            case rel => exact ⟨n + 1, by go_num, by omega, rfl, Hno.out, Hbn.out⟩
        · exfalso
          obtain rfl : n = x.rs.length := by omega
          have h1 := Hsm.out.all
          rw [List.any_eq_false] at h1
          exact h1 r Hr.out Hbad.out
    · obtain ⟨i, j, x, y, m, hx, hy, h1, h2, hmx, hw, rfl⟩ := lost_kind hl
      rw [hf, he]
      have hi := (List.getElem?_eq_some_iff.1 hx).1
      have hj := (List.getElem?_eq_some_iff.1 hy).1
      have C1 := Lib.hid (cnt_one (key := m.k) (may_keys hm hx) (List.mem_map.2 ⟨m, hmx, rfl⟩))
      have C2 := Lib.hid (cnt_one (key := m.k) (may_keys hm hy) (wrote_mem hw))
      have hxw := HS.out.ws x (List.mem_of_getElem? hx)
      have hyw := HS.out.ws y (List.mem_of_getElem? hy)
      have Hx := Lib.hid hx
      have Hy := Lib.hid hy
      clear hm hf he hs hl hmx hw hx hy
      obtain ⟨b, off, x', rfl, hblt, hx', e0, e1, ⟨ra, rc, e2, g3⟩, wa, wcap, e3, g5⟩ := H2.out.get hi
      obtain rfl : x = x' := Option.some.inj (Hx.out.symm.trans hx')
      obtain ⟨b', off', y', hbo, hblt', hy', f0, f1, ⟨ra2, rc2, f2, k3⟩, wa2, wcap2, f3, k5⟩ := H2.out.get hj
      obtain rfl : y = y' := Option.some.inj (Hy.out.symm.trans hy')
      simp only [Option.some.injEq, Addr.mk.injEq, and_true] at hbo
      obtain ⟨rfl, rfl⟩ := hbo
      have hii : (i : Int) < (xs.length : Int) := by omega
      have hji : (j : Int) < (xs.length : Int) := by omega
      unfold fltV
      obtain ⟨W, hW⟩ : ∃ W, w2.alloc (.cells #[.int .i64 2, .int .i64 i, .int .i64 j, .string m.k] 27) = W := ⟨_, rfl⟩
      have hB : Blk W w2.heap.size 27 #[.int .i64 2, .int .i64 i, .int .i64 j, .string m.k] := by rw [← hW]; exact Blk.new _ _ _
      have hbW : Below w2.heap.size w2 W := by rw [← hW]; exact new1 _ _
      have hWs : w2.heap.size < W.heap.size := by rw [← hW]; simp
      have q0 : W.cell? ⟨w2.heap.size, 0, none⟩ = some (.int .i64 2) := hB.cell 0
      have q1 : W.cell? ⟨w2.heap.size, 1, none⟩ = some (.int .i64 i) := hB.cell 1
      have q2 : W.cell? ⟨w2.heap.size, 2, none⟩ = some (.int .i64 j) := hB.cell 2
      rw [← hbW.cell (by exact hblt)] at e0 e1 e2 e3 f0 f1 f2 f3
      have HB := Lib.hid hB
      have HbW := Lib.hid (then_ Hb2.out (Nat.le_refl _) hbW)
      have G5 := Lib.hid (mts_below g5 hbW)
      have K5 := Lib.hid (mts_below k5 hbW)
      clear hB hbW g3 k3 g5 k5 hx' hy'
      have hbl : b < W.heap.size := by omega
      go_upto_region 25 with fail
      clear hW
      go_cut [9, 10] (fun u v w3 => AfterTwo x y W wa wa2 wcap wcap2 u v w3)
      case first =>
        go_region_held3 (fun w' => (w'.cell? ⟨w2.heap.size, 1, none⟩ = some (.int .i64 i) ∧ w'.cell? ⟨w2.heap.size, 2, none⟩ = some (.int .i64 j)) ∧ (w'.cell? ⟨b, off + i * 4, none⟩ = some (.int .u64 x.s) ∧ w'.cell? ⟨b, off + i * 4 + 1, none⟩ = some (.int .u64 x.t) ∧ w'.cell? ⟨b, off + i * 4 + 2, none⟩ = some (.slice ra x.rs.length rc) ∧ w'.cell? ⟨b, off + i * 4 + 3, none⟩ = some (.slice wa x.ws.length wcap))
            ∧ (w'.cell? ⟨b, off + j * 4, none⟩ = some (.int .u64 y.s) ∧ w'.cell? ⟨b, off + j * 4 + 1, none⟩ = some (.int .u64 y.t) ∧ w'.cell? ⟨b, off + j * 4 + 2, none⟩ = some (.slice ra2 y.rs.length rc2) ∧ w'.cell? ⟨b, off + j * 4 + 3, none⟩ = some (.slice wa2 y.ws.length wcap2)))
          (first | exact ⟨⟨q1, q2⟩, ⟨e0, e1, e2, e3⟩, ⟨f0, f1, f2, f3⟩⟩ | go_keep)
          (fail)
        all_goals go_wp2_with fail
        all_goals go_meet
        all_goals first | exact ⟨_, _, _, _, rfl, rfl, ((blk1 W 34 _).alloc _).drewN 1, (blk2 W _ 34 _).drewN 1, (new2 W _ _).drew⟩ | exact ⟨_, _, _, _, rfl, rfl, (blk2 W _ 34 _).drewN 1, ((blk1 W 34 _).alloc _).drewN 1, (new2 W _ _).drew⟩
      case rest =>
        obtain ⟨b1, b2, r1, r2, rfl, rfl, hX, hY, hb3⟩ := hcut
        obtain ⟨w3, hw3⟩ : ∃ w3, w3 = wc := ⟨_, rfl⟩
        subst hw3
        have HX := Lib.hid hX
        have HY := Lib.hid hY
        have HB3 := Lib.hid (HB.out.on hb3)
        have Hb3 := Lib.hid (then_ HbW.out (Nat.le_refl _) hb3)
        have G53 := Lib.hid (mts_below G5.out hb3)
        have K53 := Lib.hid (mts_below K5.out hb3)
        have x3 : w3.cell? ⟨b1, 3, none⟩ = some (.slice wa x.ws.length wcap) := hX.cell 3
        clear hX hY hb3 q0 q1 q2 e0 e1 e2 e3 f0 f1 f2 f3
        go_wp2_with fail
        clear x3
        go_loopg [11, 145] x.ws.length (fun g u iv wr => CntRel m.k x.ws 0 w3 g u iv wr)
        case atStart => exact ⟨0, rfl, by omega, by omega, rfl, Below.refl _ _⟩
        case round =>
          obtain ⟨n, rfl, hn, rfl, rfl, hb⟩ := hrel
          obtain ⟨w4, hw4⟩ : ∃ w4, w4 = wr := ⟨_, rfl⟩
          subst hw4
          have Hb := Lib.hid hb
          clear hb
          by_cases hlt : n < x.ws.length
          · obtain ⟨b4, off4, u, rfl, hblt4, hu, u0, u1, u2⟩ := G53.out.get hlt
            rw [← Hb.out.cell (by exact hblt4)] at u0 u1 u2
            have Hu := Lib.hid (cnt_snoc hu m.k)
            have hlti : (n : Int) < (x.ws.length : Int) := by omega
            have hF := HB3.out.on Hb.out
            have hFl := hF.lt
            have j3 : w4.cell? ⟨w2.heap.size, 3, none⟩ = some (.string m.k) := hF.cell 3
            have Hbn := Lib.hid (up1 Hb.out (Nat.le_refl _) (.cells #[.string u.k, .int .i64 u.c, .string u.v] 40))
            have hcl := cnt_le m.k (x.ws.take n)
            rw [List.length_take] at hcl
            clear hu hF
            obtain ⟨k, hk⟩ : ∃ k, cntK m.k (x.ws.take n) = k := ⟨_, rfl⟩
            have Hk := Lib.hid hk
            rw [hk] at hcl ⊢
            clear hk
            by_cases he : (u.k.toList == m.k.toList) = true
            · have Hs := Lib.hid (show cntK m.k (x.ws.take (n + 1)) = k + 1 by rw [Hu.out, if_pos he, Hk.out])
              go_wp2_with fail
              go_roundg (x.ws.length - (n + 1))
              case measure => omega
              case rel => exact ⟨n + 1, by go_num, by omega, rfl, by rw [Hs.out]; go_num, Hbn.out⟩
            · have Hs := Lib.hid (show cntK m.k (x.ws.take (n + 1)) = k by rw [Hu.out, if_neg he, Hk.out]; rfl)
              have he' : (u.k.toList == m.k.toList) = false := by simpa using he
              clear he
              go_wp2_with fail
              go_roundg (x.ws.length - (n + 1))
              case measure => omega
              case rel => exact ⟨n + 1, by go_num, by omega, rfl, by rw [Hs.out], Hbn.out⟩
          · obtain rfl : n = x.ws.length := by omega
            rw [List.take_length, C1.out]
            have y3 : w4.cell? ⟨b2, 3, none⟩ = some (.slice wa2 y.ws.length wcap2) := (HY.out.on Hb.out).cell 3
            have K54 := Lib.hid (mts_below K53.out Hb.out)
            have HX4 := Lib.hid (HX.out.on Hb.out)
            have HY4 := Lib.hid (HY.out.on Hb.out)
            have HB4 := Lib.hid (HB3.out.on Hb.out)
            have Hb4 := Lib.hid (then_ Hb3.out (Nat.le_refl _) Hb.out)
            go_wp2_with fail
            clear y3
            go_loopg [11, 160] y.ws.length (fun g u iv wr => CntRel m.k y.ws 1 w4 g u iv wr)
            case atStart => exact ⟨0, rfl, by omega, by omega, rfl, Below.refl _ _⟩
            case round =>
              obtain ⟨n, rfl, hn, rfl, rfl, hb⟩ := hrel
              have Hb := Lib.hid hb
              clear hb
              by_cases hlt : n < y.ws.length
              · obtain ⟨b4, off4, u, rfl, hblt4, hu, u0, u1, u2⟩ := K54.out.get hlt
                rw [← Hb.out.cell (by exact hblt4)] at u0 u1 u2
                have Hu := Lib.hid (cnt_snoc hu m.k)
                have hlti : (n : Int) < (y.ws.length : Int) := by omega
                have hF := HB4.out.on Hb.out
                have hFl := hF.lt
                have j3 : wr.cell? ⟨w2.heap.size, 3, none⟩ = some (.string m.k) := hF.cell 3
                have Hbn := Lib.hid (up1 Hb.out (Nat.le_refl _) (.cells #[.string u.k, .int .i64 u.c, .string u.v] 40))
                have hcl := cnt_le m.k (y.ws.take n)
                rw [List.length_take] at hcl
                clear hu hF
                obtain ⟨k, hk⟩ : ∃ k, cntK m.k (y.ws.take n) = k := ⟨_, rfl⟩
                have Hk := Lib.hid hk
                rw [hk] at hcl ⊢
                clear hk
                by_cases he : (u.k.toList == m.k.toList) = true
                · have Hs := Lib.hid (show cntK m.k (y.ws.take (n + 1)) = k + 1 by rw [Hu.out, if_pos he, Hk.out])
                  go_wp2_with fail
                  go_roundg (y.ws.length - (n + 1))
                  case measure => omega
                  case rel => exact ⟨n + 1, by go_num, by omega, rfl, by rw [Hs.out]; go_num, Hbn.out⟩
                · have Hs := Lib.hid (show cntK m.k (y.ws.take (n + 1)) = k by rw [Hu.out, if_neg he, Hk.out]; rfl)
                  have he' : (u.k.toList == m.k.toList) = false := by simpa using he
                  clear he
                  go_wp2_with fail
                  go_roundg (y.ws.length - (n + 1))
                  case measure => omega
                  case rel => exact ⟨n + 1, by go_num, by omega, rfl, by rw [Hs.out], Hbn.out⟩
              · obtain rfl : n = y.ws.length := by omega
                rw [List.take_length, C2.out]
                have hX5 := HX4.out.on Hb.out
                have hY5 := HY4.out.on Hb.out
                have z0 : wr.cell? ⟨b1, 0, none⟩ = some (.int .u64 x.s) := hX5.cell 0
                have z1 : wr.cell? ⟨b1, 1, none⟩ = some (.int .u64 x.t) := hX5.cell 1
                have z2 : wr.cell? ⟨b2, 1, none⟩ = some (.int .u64 y.t) := hY5.cell 1
                have Hb5 := Lib.hid (then_ Hb4.out (Nat.le_refl _) Hb.out)
                clear hX5 hY5
                go_wp2_with fail
                go_ret
                exact ⟨rfl, Hb5.out⟩

end Go.Proofs.Ytghmjconljdapaa
