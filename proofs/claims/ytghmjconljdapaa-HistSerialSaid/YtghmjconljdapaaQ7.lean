/- The walk over HistSerial. -/
import Derived.Test.YtghmjconljdapaaQ6
import Derived.Deep.CutBlock
namespace Go.Proofs.Ytghmjconljdapaa
open Go.RowKit

/-- What has been built: the history, the map of what is there now. -/
structure Built (w : World) (nb : Nat) (L : List Raw) (now : Now) (v : Value) (wr : World) : Prop where
  ser : Ser (L.map Raw.x) now
  raws : ∀ r ∈ L, RawOwn w.heap.size wr r
  small : ∀ r ∈ L, r.x.rs.length ≤ 100 ∧ r.x.ws.length ≤ 100
  own : wr.ownsRow w.heap.size 34 4 v L.length (rawC L)
  map : ∃ m, MapIs (fun s : ByteArray => Value.string s) wr nb m ∧ NowIs now m
  nbw : w.heap.size ≤ nb
  bel : Below w.heap.size w wr

def SerRel (len : Nat) (w : World) (nb : Nat) (g : Nat) (v u : Value) (wr : World) : Prop :=
  ∃ (i : Nat) (L : List Raw) (now : Now), u = .int .i64 i ∧ i ≤ len ∧ i ≤ 30 ∧ L.length = i ∧ g = 30 - i ∧ Built w nb L now v wr

def SerAfter (w : World) (nb : Nat) (v : Value) (wr : World) : Prop := ∃ (L : List Raw) (now : Now), L.length ≤ 30 ∧ Built w nb L now v wr

/-- In the midst of a transaction: what is kept of the first q writes. -/
def KeepRel (now : Now) (ws : List Mt) (s t : Int) (w1 : World) (g : Nat) (u : Value) (wr : World) : Prop :=
  ∃ (q : Nat) (ks : List Mt) (rv wv : Value) (sl : List (ByteArray × Value)), u = .int .i64 q ∧ q ≤ ws.length ∧ g = ws.length - q ∧ (ws.take q).foldl keepStep [] = ks ∧
    Blk wr w1.heap.size 34 #[.int .u64 s, .int .u64 t, rv, wv] ∧ MapIs (fun s : ByteArray => Value.string s) wr (w1.heap.size + 1) sl ∧ SetOf (ks.map (·.k)) sl ∧
    wr.ownsRow (w1.heap.size + 2) 48 3 rv ks.length (rdsC (ks.map (readOf now))) ∧ wr.ownsRow (w1.heap.size + 2) 40 3 wv ks.length (mtsC ks) ∧ Below w1.heap.size w1 wr

theorem own_nil (w : World) (base : Nat) (e : TypeId) (size : Nat) : w.ownsRow base e size (.slice none 0 0) 0 [] := ⟨by simp, .inl ⟨rfl, rfl⟩⟩

theorem keep_in {ks : List Mt} {m : Mt} (h : m.k ∈ ks.map (·.k)) : keepStep ks m = ks := by
  unfold keepStep
  rw [if_pos (by rw [hasK_iff.2 h]; rfl)]

theorem keep_kind {ks : List Mt} {m : Mt} (h1 : ¬ m.c = 1) (h2 : ¬ m.c = 2) : keepStep ks m = ks := by
  unfold keepStep
  rw [if_pos (by unfold okC; simp [h1, h2])]

theorem keep_new {ks : List Mt} {m : Mt} (h : m.k ∉ ks.map (·.k)) (hc : m.c = 1 ∨ m.c = 2) : keepStep ks m = ks ++ [m] := by
  unfold keepStep
  have h1 : hasK ks m.k = false := by rw [Bool.eq_false_iff, ne_eq, hasK_iff]; exact h
  have h2 : okC m = true := by unfold okC; simpa using hc
  rw [if_neg (by rw [h1, h2]; simp)]

theorem keep_at {ws ks : List Mt} {q : Nat} {m : Mt} (hm : ws[q]? = some m) (h : (ws.take q).foldl keepStep [] = ks) : (ws.take (q + 1)).foldl keepStep [] = keepStep ks m := by
  rw [take_snoc' hm, List.foldl_append, h]
  rfl

theorem rd_ones (r : Rd) : ∀ u ∈ [Value.string r.k, Value.string r.v, Value.bool r.i], u.oneCell' = true := by
  intro u hu
  simp only [List.mem_cons, List.not_mem_nil, or_false] at hu
  rcases hu with rfl | rfl | rfl <;> rfl

theorem mt_ones (m : Mt) : ∀ u ∈ [Value.string m.k, Value.int .i64 m.c, Value.string m.v], u.oneCell' = true := by
  intro u hu
  simp only [List.mem_cons, List.not_mem_nil, or_false] at hu
  rcases hu with rfl | rfl | rfl <;> rfl

theorem rds_snoc (now : Now) (ks : List Mt) (m : Mt) : rdsC ((ks ++ [m]).map (readOf now)) = rdsC (ks.map (readOf now)) ++ [.string m.k, .string (readOf now m).v, .bool (readOf now m).i] := by
  unfold rdsC
  rw [List.map_append, List.flatMap_append]
  rfl

theorem mts_snoc (ks : List Mt) (m : Mt) : mtsC (ks ++ [m]) = mtsC ks ++ [.string m.k, .int .i64 m.c, .string m.v] := by
  unfold mtsC
  rw [List.flatMap_append]
  rfl

theorem raw_ones (x : Tx) (a b : Option Addr) (n m c d : Nat) : ∀ u ∈ rawC1 ⟨x, .slice a n c, .slice b m d⟩, u.oneCell' = true := by
  intro u hu
  simp only [rawC1, List.mem_cons, List.not_mem_nil, or_false] at hu
  rcases hu with rfl | rfl | rfl | rfl <;> rfl

theorem read_now (now : Now) (m : Mt) : ((now m.k).map Value.string).getD (.string { data := #[] }) = .string (readOf now m).v ∧ ((now m.k).map Value.string).isSome = (readOf now m).i := by
  unfold readOf
  cases now m.k <;> exact ⟨rfl, rfl⟩

/-- Only block nb is another. -/
def Apart (nb : Nat) (w w' : World) : Prop := w.heap.size ≤ w'.heap.size ∧ ∀ k, k < w.heap.size → k ≠ nb → w'.heap[k]? = w.heap[k]?

theorem Apart.refl (nb : Nat) (w : World) : Apart nb w w := ⟨Nat.le_refl _, fun _ _ _ => rfl⟩
theorem Apart.alloc {nb : Nat} {w w' : World} (h : Apart nb w w') (o : Obj) : Apart nb w (w'.alloc o) :=
  ⟨by have := h.1; simp; omega, fun k h1 h2 => (Below.heap_alloc w' o k (Nat.lt_of_lt_of_le h1 h.1)).trans (h.2 k h1 h2)⟩
theorem Apart.grown {nb : Nat} {w w' w'' : World} (h : Apart nb w w') (hg : w'.grownBy w'' (some nb)) : Apart nb w w'' :=
  ⟨Nat.le_trans h.1 hg.size, fun k h1 h2 => (hg.block k (Nat.lt_of_lt_of_le h1 h.1) (by simpa using h2)).trans (h.2 k h1 h2)⟩

theorem Blk.apart {nb g : Nat} {w w' : World} {t : TypeId} {cs : Array Value} (h : Blk w g t cs) (ha : Apart nb w w') (hne : g ≠ nb) : Blk w' g t cs := (ha.2 g h.lt hne).trans h

theorem own_apart {α : Type} {enc : α → Value} {w w' : World} {base n : Nat} {e : TypeId} {size : Nat} {v : Value} {xs : List Value} {b : Nat} {l : List (α × Value)} (h : w.ownsRow base e size v n xs) (hm : MapIs enc w b l) (ha : Apart b w w') :
    w'.ownsRow base e size v n xs := by
  obtain ⟨h1, h2⟩ := h
  refine ⟨h1, ?_⟩
  rcases h2 with h2 | ⟨g, cap, cur, e1, e2, hh, e3⟩
  · exact .inl h2
  · have hlt := (Array.getElem?_eq_some_iff.1 hh).1
    exact .inr ⟨g, cap, cur, e1, e2, (ha.2 g hlt (by have := blk_map_ne hm (t := e) (cs := cur) hh; simpa using this)).trans hh, e3⟩

theorem RawOwn.apart {α : Type} {enc : α → Value} {w w' : World} {base : Nat} {r : Raw} {b : Nat} {l : List (α × Value)} (h : RawOwn base w r) (hm : MapIs enc w b l) (ha : Apart b w w') : RawOwn base w' r := ⟨own_apart h.1 hm ha, own_apart h.2 hm ha⟩

/-- What is there now, the first p writes being in. -/
def ApplyRel (now : Now) (ks : List Mt) (w w3 : World) (nb : Nat) (g : Nat) (u : Value) (wr : World) : Prop :=
  ∃ (p : Nat) (mm : List (ByteArray × Value)), u = .int .i64 p ∧ p ≤ ks.length ∧ g = ks.length - p ∧ MapIs (fun s : ByteArray => Value.string s) wr nb mm ∧ NowIs ((ks.take p).foldl nowStep now) mm ∧ Apart nb w3 wr ∧ Below w.heap.size w wr

theorem now_at {ks : List Mt} {p : Nat} {m : Mt} {now : Now} (hm : ks[p]? = some m) : (ks.take (p + 1)).foldl nowStep now = nowStep ((ks.take p).foldl nowStep now) m := by
  rw [take_snoc' hm, List.foldl_append]
  rfl

theorem Built.more {w : World} {nb : Nat} {L : List Raw} {now : Now} {v v1 : Value} {ks : List Mt} {rv wv : Value} {w2 w3 w6 w7 : World} (hB : Built w nb L now v w2) (hb3 : Below w2.heap.size w2 w3)
    (hk : wsB ks = true) (hl : ks.length ≤ 100) (hr : w3.ownsRow (w2.heap.size + 2) 48 3 rv ks.length (rdsC (ks.map (readOf now)))) (hw : w3.ownsRow (w2.heap.size + 2) 40 3 wv ks.length (mtsC ks))
    {mm : List (ByteArray × Value)} (hM : MapIs (fun s : ByteArray => Value.string s) w6 nb mm) (hN : NowIs (ks.foldl nowStep now) mm) (ha : Apart nb w3 w6) (hb6 : Below w.heap.size w w6) {o : Obj}
    (hown : w7.ownsRow w.heap.size 34 4 v1 (L.length + 1) (rawC L ++ rawC1 ⟨newTx L.length ks now, rv, wv⟩)) (hg : (w6.alloc o).grownBy w7 v.ownBlock) :
    Built w nb (L ++ [⟨newTx L.length ks now, rv, wv⟩]) (ks.foldl nowStep now) v1 w7 := by
  obtain ⟨m2, hM2, _⟩ := hB.map
  have hM3 := hM2.below hb3
  have hsz2 := hB.bel.size
  have ho6 := own_apart (own_below hB.own hb3) hM3 ha
  have hs6 := hb6.size
  have keep : ∀ r, RawOwn w.heap.size w3 r → RawOwn w.heap.size w7 r := fun r h => ((h.apart hM3 ha).below (new1 w6 o)).grown (ho6.alloc o) hg
  have hnew : RawOwn (w2.heap.size + 2) w3 ⟨newTx L.length ks now, rv, wv⟩ := by
    refine ⟨?_, hw⟩
    show w3.ownsRow _ 48 3 rv (ks.map (readOf now)).length (rdsC (ks.map (readOf now)))
    rw [List.length_map]
    exact hr
  refine ⟨?_, fun r hr => ?_, fun r hr => ?_, ?_, ⟨mm, map_grown (hM.alloc o) hg (own_map_ne ho6 hM), hN⟩, hB.nbw, (up1 hb6 (Nat.le_refl _) o).grown hg (by simp; omega) (fun k hk => (ho6.lt k hk).1)⟩
  · have := hB.ser.step hk
    rw [List.length_map] at this
    rw [List.map_append]
    exact this
  · rcases List.mem_append.1 hr with hr | hr
    · exact keep r ((hB.raws r hr).below hb3)
    · rw [List.mem_singleton.1 hr]
      exact keep _ (hnew.base (by omega))
  · rcases List.mem_append.1 hr with hr | hr
    · exact hB.small r hr
    · rw [List.mem_singleton.1 hr]
      exact ⟨by show (ks.map (readOf now)).length ≤ 100; rw [List.length_map]; exact hl, hl⟩
  · rw [List.length_append, List.length_singleton]
    have : rawC (L ++ [⟨newTx L.length ks now, rv, wv⟩]) = rawC L ++ rawC1 ⟨newTx L.length ks now, rv, wv⟩ := by
      unfold rawC
      rw [List.flatMap_append]
      simp
    rw [this]
    exact hown

set_option maxRecDepth 100000 in
set_option maxHeartbeats 8000000 in
theorem serial_calls (ao : Option Addr) (c : Nat) (xs : List (List Mt)) (w : World) (h : RowOf MsAt w ao xs.length xs) :
    Calls Try.prog 5 #[.slice ao xs.length c] w fun e w' => e = .returned (.bool true) ∧ Below w.heap.size w w' := by
  have H := Lib.hid h
  clear h
  have hmm := @run_makeMap Try.prog
  go_enter Try.func5, Try.ntmps5
  go_wp2_with fail
  refine (awake_calls _).mono ?_
  rintro e w1 ⟨rfl, hb1⟩
  have hs1 := hb1.size
  have hin : Built w (w1.heap.size + 1) [] (fun _ => none) (.slice (some ⟨w1.heap.size, 0, none⟩) 0 0) ((w1.alloc (.cells #[] 34)).alloc (.map #[] 0)) := by
    refine ⟨Ser.nil, by simp, by simp, (own_empty w1 34 4 hs1).alloc _, ⟨[], ?_, NowIs.nil⟩, by omega, up1 (up1 hb1 (Nat.le_refl _) _) (Nat.le_refl _) _⟩
    simpa only [World.size_alloc] using MapIs.made (fun s : ByteArray => Value.string s) (w1.alloc (.cells #[] 34))
  have Hin := Lib.hid hin
  clear hin hb1
  go_upto_block 0 with fail
  go_cut [3] (fun v wr => SerAfter w (w1.heap.size + 1) v wr)
  case first =>
    go_wp2_with fail
    go_loopg [3, 5] 30 (fun g v u wr => SerRel xs.length w (w1.heap.size + 1) g v u wr)
    case atStart => exact ⟨0, [], _, rfl, by omega, by omega, rfl, rfl, Hin.out⟩
    case round =>
      obtain ⟨i, L, now, rfl, hi1, hi2, hLi, rfl, hB⟩ := hrel
      obtain ⟨w2, hw2⟩ : ∃ w2, w2 = wr := ⟨_, rfl⟩
      subst hw2
      have HB := Lib.hid hB
      have HLi := Lib.hid hLi
      clear hB hLi
      by_cases hlt : i < xs.length
      · by_cases h30 : i < 30
        · obtain ⟨b, off, ws, rfl, hblt, hws, wa, wcap, e0, g5⟩ := H.out.get hlt
          have hsz2 := HB.out.bel.size
          rw [← HB.out.bel.cell (by exact hblt)] at e0
          have G5 := Lib.hid (mts_below g5 HB.out.bel)
          have hb2 : b < w2.heap.size := by omega
          have hlti : (i : Int) < (xs.length : Int) := by omega
          have h30i : (i : Int) < 30 := by omega
          clear hws g5
          by_cases h20 : 20 < ws.length
          · have h20i : 20 < (ws.length : Int) := by omega
            go_wp2_with fail
            go_ret
            exact ⟨rfl, HB.out.bel⟩
          · have h20i : ¬ 20 < (ws.length : Int) := by omega
            have Hws := Lib.hid (show ws.length ≤ 20 by omega)
            go_wp2_with fail
            clear hmm e0
            go_loopg [58] ws.length (fun g u wr => KeepRel now ws (2 * (i : Int) + 1) (2 * (i : Int) + 2) w2 g u wr)
            case atStart => exact ⟨0, [], _, _, [], rfl, by omega, by omega, rfl, (Blk.new w2 34 _).alloc _, by simpa only [World.size_alloc] using MapIs.made (fun s : ByteArray => Value.string s) (w2.alloc _), SetOf.nil, own_nil _ _ _ _, own_nil _ _ _ _, new2 w2 _ _⟩
            case round =>
              obtain ⟨q, ks, rv, wv, sl, rfl, hq, rfl, hks, hX, hM, hS, hr, hw, hb⟩ := hrel
              obtain ⟨w3, hw3⟩ : ∃ w3, w3 = wr := ⟨_, rfl⟩
              subst hw3
              obtain ⟨ra, rc, rfl⟩ := own_slice hr
              obtain ⟨va, vc, rfl⟩ := own_slice hw
              have hs3 : w2.heap.size + 2 ≤ w3.heap.size := hM.lt
              have hkq : ks.length ≤ q := by
                have h1 := kept_len (ws.take q) []
                rw [hks, List.length_take] at h1
                simp at h1
                omega
              have HX := Lib.hid hX
              have HM := Lib.hid hM
              have HS := Lib.hid hS
              have Hr := Lib.hid hr
              have Hw := Lib.hid hw
              have Hb := Lib.hid hb
              have Hks := Lib.hid hks
              clear hX hM hS hr hw hks hb
              by_cases hltq : q < ws.length
              · obtain ⟨b4, off4, m, hwa, hblt4, hm, e0, e1, e2⟩ := (mts_below G5.out Hb.out).get hltq
                have hltqi : (q : Int) < (ws.length : Int) := by omega
                have Hm := Lib.hid hm
                clear hm
                subst hwa
                by_cases hk : 100 < (m.k.size : Int)
                · go_wp2_with fail
                  go_ret
                  exact ⟨rfl, up1 (then_ HB.out.bel (Nat.le_refl _) Hb.out) (Nat.le_refl _) _⟩
                · by_cases hv : 100 < (m.v.size : Int)
                  · go_wp2_with fail
                    go_ret
                    exact ⟨rfl, up1 (then_ HB.out.bel (Nat.le_refl _) Hb.out) (Nat.le_refl _) _⟩
                  · have hMa := HM.out.alloc (.cells #[.string m.k, .int .i64 m.c, .string m.v] 40)
                    have hlk := hMa.lookup (string_kind Try.underlying9) Try.underlying46 (z := .bool false) (by kernel_rfl) m.k
                    rw [HS.out m.k] at hlk
                    by_cases hin : m.k ∈ ks.map (·.k)
                    · rw [if_pos hin] at hlk
                      have Hk := Lib.hid ((keep_at Hm.out Hks.out).trans (keep_in hin))
                      clear hMa hin
                      go_wp2_with fail
                      go_roundg (ws.length - (q + 1))
                      case measure => omega
                      case rel => exact ⟨q + 1, ks, _, _, sl, by go_num, by omega, rfl, Hk.out, HX.out.alloc _, HM.out.alloc _, HS.out, Hr.out.alloc _, Hw.out.alloc _, up1 Hb.out (Nat.le_refl _) _⟩
                    · rw [if_neg hin] at hlk
                      by_cases hc : m.c = 1 ∨ m.c = 2
                      · obtain ⟨w5, hrun, hM5, hg5⟩ := hMa.update (string_kind Try.underlying9) Try.underlying46 m.k (.bool true)
                        have hX5 := Blk.grown (HX.out.alloc (.cells #[.string m.k, .int .i64 m.c, .string m.v] 40)) hg5 (by simp)
                        have h95 := Blk.grown (Blk.new w3 40 #[.string m.k, .int .i64 m.c, .string m.v]) hg5 (by simp; omega)
                        have hr5 := own_map (Hr.out.alloc (.cells #[.string m.k, .int .i64 m.c, .string m.v] 40)) hMa hg5
                        have hw5 := own_map (Hw.out.alloc (.cells #[.string m.k, .int .i64 m.c, .string m.v] 40)) hMa hg5
                        have hb5 : Below w2.heap.size w2 w5 := (up1 Hb.out (Nat.le_refl _) (.cells #[.string m.k, .int .i64 m.c, .string m.v] 40)).grown hg5 (by simp; omega) (fun k hk => by cases hk; omega)
                        obtain ⟨mm, hmm1, hNow⟩ := HB.out.map
                        have hlk2 := (hmm1.below hb5).lookup_ok (string_kind Try.underlying9) Try.underlying45 (z := .string { data := #[] }) (by kernel_rfl) m.k
                        rw [hNow.2 m.k, (read_now now m).1, (read_now now m).2] at hlk2
                        obtain ⟨rd, hrd⟩ : ∃ rd, readOf now m = rd := ⟨_, rfl⟩
                        rw [hrd] at hlk2
                        have Hk := Lib.hid ((keep_at Hm.out Hks.out).trans (keep_new hin hc))
                        have Hrd := Lib.hid hrd
                        have hs5 : w3.heap.size < w5.heap.size := h95.lt
                        have x2 : w5.cell? ⟨w2.heap.size, 2, none⟩ = some (.slice ra ks.length rc) := hX5.cell 2
                        have y0 : w5.cell? ⟨w3.heap.size, 0, none⟩ = some (.string m.k) := h95.cell 0
                        have HX5 := Lib.hid hX5
                        have H95 := Lib.hid h95
                        have HM5 := Lib.hid hM5
                        have HS5 := Lib.hid (HS.out.put m.k)
                        have Hr5 := Lib.hid hr5
                        have Hw5 := Lib.hid hw5
                        have Hb5 := Lib.hid hb5
                        clear hMa hin hM5 hg5 hX5 h95 hr5 hw5 hb5 hmm1 hNow hrd
                        obtain ⟨i0, hi, hz0, hz1, hz2⟩ := info_parts Try.info48
                        rcases hc with hc | hc
                        all_goals
                          rw [hc] at e1 hlk hrun
                          clear hc
                          go_wp2_with (at_builtin; refine wpList_append_own _ rfl _ _ 31 rfl (w2.heap.size + 2) 48 i0 _ 3 40 Try.underlying31 hi hz0 hz1 hz2 rfl (by decide) _ _ _ rfl (Hr5.out.alloc _) ⟨w5.heap.size, 0, none⟩ 1 1 [.string m.k, .string rd.v, .bool rd.i] rfl rfl (cells_new w5 48 [.string m.k, .string rd.v, .bool rd.i]) (rd_ones ⟨m.k, rd.v, rd.i⟩) ?c3 ?c4 ?c5 ?_)
                          case c3 => first | omega | (unfold maxLen; omega)
                          case c4 => omega
                          case c5 => first | omega | (simp; omega)
                          intro v1 w6 hr6 hg6 _
                          have hX6 := Blk.grown (HX5.out.alloc _) hg6 (own_ne Hr5.out HX5.out (by decide))
                          have h96 := Blk.grown (H95.out.alloc _) hg6 (own_ne Hr5.out H95.out (by decide))
                          have hM6 := map_grown (HM5.out.alloc _) hg6 (own_map_ne Hr5.out HM5.out)
                          have hw6 := own_grown (Hw5.out.alloc _) (Hr5.out.alloc _) (by decide) hg6
                          have hb6 : Below w2.heap.size w2 w6 := (up1 Hb5.out (Nat.le_refl _) _).grown hg6 (by simp; omega) (fun k hk => by have := (Hr5.out.lt k hk).1; omega)
                          have hs6 : w3.heap.size < w6.heap.size := h96.lt
                          obtain ⟨ra1, rc1, rfl⟩ := own_slice hr6
                          have x2 : w6.cell? ⟨w2.heap.size, 2, none⟩ = some (.slice ra ks.length rc) := hX6.cell 2
                          have x3 : w6.cell? ⟨w2.heap.size, 3, none⟩ = some (.slice va ks.length vc) := hX6.cell 3
                          have xf : w6.frozen? ⟨w2.heap.size, 2, none⟩ = false := hX6.frozen 2
                          have xf3 : w6.frozen? ⟨w2.heap.size, 3, none⟩ = false := hX6.frozen 3
                          have y0 : w6.cell? ⟨w3.heap.size, 0, none⟩ = some (.string m.k) := h96.cell 0
                          have y1 : w6.cell? ⟨w3.heap.size, 1, none⟩ = some (.int .i64 m.c) := h96.cell 1
                          have y2 : w6.cell? ⟨w3.heap.size, 2, none⟩ = some (.string m.v) := h96.cell 2
                          have hne : ¬ w3.heap.size = w2.heap.size := by omega
                          have hne' : ¬ w2.heap.size = w3.heap.size := by omega
                          have hlt62 : w2.heap.size < w6.heap.size := by omega
                          obtain ⟨w7, hw7⟩ : ∃ w7, w6.setCell ⟨w2.heap.size, 2, none⟩ (.slice ra1 (ks.length + 1) rc1) = w7 := ⟨_, rfl⟩
                          have hsz7 : w7.heap.size = w6.heap.size := by rw [← hw7]; simp
                          have hX7 : Blk w7 w2.heap.size 34 #[.int .u64 (2 * (i : Int) + 1), .int .u64 (2 * (i : Int) + 2), .slice ra1 (ks.length + 1) rc1, .slice va ks.length vc] := by rw [← hw7]; exact hX6.set 2 _
                          have hM7 : MapIs (fun s : ByteArray => Value.string s) w7 (w2.heap.size + 1) (mput m.k (.bool true) sl) := by rw [← hw7]; exact hM6.same (Below.heap_setCell w6 _ _ _ (by simp))
                          have hr7 : w7.ownsRow (w2.heap.size + 2) 48 3 (.slice ra1 (ks.length + 1) rc1) (ks.length + 1) (rdsC (ks.map (readOf now)) ++ [.string m.k, .string rd.v, .bool rd.i]) := by rw [← hw7]; exact ownsRow_setCell_below hr6 (by simp) _
                          have hw7' : w7.ownsRow (w2.heap.size + 2) 40 3 (.slice va ks.length vc) ks.length (mtsC ks) := by rw [← hw7]; exact ownsRow_setCell_below hw6 (by simp) _
                          have hb7 : Below w2.heap.size w2 w7 := by rw [← hw7]; exact hb6.setCell (by simp) _
                          have HX7 := Lib.hid hX7
                          have HM7 := Lib.hid hM7
                          have Hr7 := Lib.hid hr7
                          have Hw7 := Lib.hid hw7'
                          have Hb7 := Lib.hid hb7
                          have Hsz7 := Lib.hid hsz7
                          have Hw7e := Lib.hid hw7
                          clear hX6 h96 hM6 hw6 hb6 hg6 hr6 hX7 hM7 hr7 hw7' hb7 hsz7 hw7 hi hz0 hz1 hz2 hlk hlk2 hrun
                          obtain ⟨i1, hi, hz0, hz1, hz2⟩ := info_parts Try.info40
                          go_wp2_with (at_builtin; rw [Hw7e.out]; rw [← Hsz7.out]; refine wpList_append_own _ rfl _ _ 32 rfl (w2.heap.size + 2) 40 i1 _ 3 40 Try.underlying32 hi hz0 hz1 hz2 rfl (by decide) _ _ _ rfl (Hw7.out.alloc _) ⟨w7.heap.size, 0, none⟩ 1 1 [.string m.k, .int .i64 m.c, .string m.v] rfl rfl (cells_new w7 40 [.string m.k, .int .i64 m.c, .string m.v]) (mt_ones m) ?c3 ?c4 ?c5 ?_)
                          case c3 => first | omega | (unfold maxLen; omega)
                          case c4 => omega
                          case c5 => first | omega | (simp; have := Hsz7.out; omega)
                          intro v2 w8 hw8 hg8 _
                          have hX8 := Blk.grown (HX7.out.alloc _) hg8 (own_ne Hw7.out HX7.out (by decide))
                          have hM8 := map_grown (HM7.out.alloc _) hg8 (own_map_ne Hw7.out HM7.out)
                          have hr8 := own_grown (Hr7.out.alloc _) (Hw7.out.alloc _) (by decide) hg8
                          have hb8 : Below w2.heap.size w2 w8 := (up1 Hb7.out (Nat.le_refl _) _).grown hg8 (by simp; have := Hsz7.out; omega) (fun k hk => by have := (Hw7.out.lt k hk).1; omega)
                          obtain ⟨wa1, wc1, rfl⟩ := own_slice hw8
                          have x3 : w8.cell? ⟨w2.heap.size, 3, none⟩ = some (.slice va ks.length vc) := hX8.cell 3
                          have xf : w8.frozen? ⟨w2.heap.size, 3, none⟩ = false := hX8.frozen 3
                          have hlt82 : w2.heap.size < w8.heap.size := hX8.lt
                          have HX9 := Lib.hid (show Blk (w8.setCell ⟨w2.heap.size, 3, none⟩ (.slice wa1 (ks.length + 1) wc1)) w2.heap.size 34 #[.int .u64 (2 * (i : Int) + 1), .int .u64 (2 * (i : Int) + 2), .slice ra1 (ks.length + 1) rc1, .slice wa1 (ks.length + 1) wc1] from hX8.set 3 _)
                          have HM9 := Lib.hid (show MapIs (fun s : ByteArray => Value.string s) (w8.setCell ⟨w2.heap.size, 3, none⟩ (.slice wa1 (ks.length + 1) wc1)) (w2.heap.size + 1) (mput m.k (.bool true) sl) from hM8.same (Below.heap_setCell w8 _ _ _ (by simp)))
                          have HS9 := Lib.hid (show SetOf ((ks ++ [m]).map (·.k)) (mput m.k (.bool true) sl) by rw [List.map_append]; exact HS5.out)
                          have Hr9 := Lib.hid (show (w8.setCell ⟨w2.heap.size, 3, none⟩ (.slice wa1 (ks.length + 1) wc1)).ownsRow (w2.heap.size + 2) 48 3 (.slice ra1 (ks.length + 1) rc1) (ks ++ [m]).length (rdsC ((ks ++ [m]).map (readOf now))) by
                            rw [rds_snoc, Hrd.out, List.length_append, List.length_singleton]; exact ownsRow_setCell_below hr8 (by simp) _)
                          have Hw9 := Lib.hid (show (w8.setCell ⟨w2.heap.size, 3, none⟩ (.slice wa1 (ks.length + 1) wc1)).ownsRow (w2.heap.size + 2) 40 3 (.slice wa1 (ks.length + 1) wc1) (ks ++ [m]).length (mtsC (ks ++ [m])) by
                            rw [mts_snoc, List.length_append, List.length_singleton]; exact ownsRow_setCell_below hw8 (by simp) _)
                          have Hb9 := Lib.hid (show Below w2.heap.size w2 (w8.setCell ⟨w2.heap.size, 3, none⟩ (.slice wa1 (ks.length + 1) wc1)) from hb8.setCell (by simp) _)
                          clear hX8 hM8 hr8 hb8 hw8 hg8 hi hz0 hz1 hz2
                          go_wp2_with fail
                          go_roundg (ws.length - (q + 1))
                          case measure => omega
                          case rel => exact ⟨q + 1, ks ++ [m], _, _, _, by go_num, by omega, rfl, Hk.out, HX9.out, HM9.out, HS9.out, Hr9.out, Hw9.out, Hb9.out⟩
                      · have Hk := Lib.hid ((keep_at Hm.out Hks.out).trans (keep_kind (fun h => hc (.inl h)) (fun h => hc (.inr h))))
                        have c1 : (m.c != 1) = true := by simp; omega
                        have c2 : (m.c != 2) = true := by simp; omega
                        clear hMa hin hc
                        go_wp2_with fail
                        go_roundg (ws.length - (q + 1))
                        case measure => omega
                        case rel => exact ⟨q + 1, ks, _, _, sl, by go_num, by omega, rfl, Hk.out, HX.out.alloc _, HM.out.alloc _, HS.out, Hr.out.alloc _, Hw.out.alloc _, up1 Hb.out (Nat.le_refl _) _⟩
              · obtain rfl : q = ws.length := by omega
                obtain ⟨m3, hm3, hNow3⟩ := HB.out.map
                have hnbl : w1.heap.size + 1 < w2.heap.size := hm3.lt
                have hM3 := hm3.below Hb.out
                have HM3 := Lib.hid hM3
                have HN3 := Lib.hid hNow3
                have hb3w := then_ HB.out.bel (Nat.le_refl _) Hb.out
                have Hb3w := Lib.hid hb3w
                have hkl : ks.length ≤ 20 := by have := Hws.out; omega
                have x3 : w3.cell? ⟨w2.heap.size, 3, none⟩ = some (.slice va ks.length vc) := HX.out.cell 3
                clear hm3 hNow3 hM3 hb3w HM HS
                go_wp2_with fail
                clear x3
                go_loopg [116] ks.length (fun g u wr => ApplyRel now ks w w3 (w1.heap.size + 1) g u wr)
                case atStart => exact ⟨0, m3, rfl, by omega, by omega, HM3.out, HN3.out, Apart.refl _ _, Hb3w.out⟩
                case round =>
                  obtain ⟨p, mm, rfl, hp, rfl, hM, hN, ha, hb⟩ := hrel
                  obtain ⟨w6, hw6⟩ : ∃ w6, w6 = wr := ⟨_, rfl⟩
                  subst hw6
                  have HM := Lib.hid hM
                  have HN := Lib.hid hN
                  have Ha := Lib.hid ha
                  have Hb6 := Lib.hid hb
                  clear hM hN ha hb
                  by_cases hltp : p < ks.length
                  · obtain ⟨b5, off5, m, hva, hblt5, hm, e0, e1, e2⟩ := (mts_of_own (own_apart Hw.out HM3.out Ha.out)).get hltp
                    subst hva
                    have hltpi : (p : Int) < (ks.length : Int) := by omega
                    have Hnx := Lib.hid (now_at (now := now) hm)
                    have hMa := HM.out.alloc (.cells #[.string m.k, .int .i64 m.c, .string m.v] 40)
                    clear hm
                    by_cases hc2 : m.c = 2
                    · obtain ⟨w7, hrun, hM7, hg7⟩ := hMa.delete (string_kind Try.underlying9) (t := 45) (kt' := 9) (ty := 0) Try.underlying45 m.k
                      have HM7 := Lib.hid hM7
                      have Ha7 := Lib.hid ((Ha.out.alloc _).grown hg7)
                      have Hb7 := Lib.hid (show Below w.heap.size w w7 from (up1 Hb6.out (Nat.le_refl _) _).grown hg7 (by have := Hb6.out.size; simp; omega) (fun k hk => by cases hk; omega))
                      have HN7 := Lib.hid (HN.out.del hc2)
                      rw [hc2] at e1 hrun
                      clear hMa hM7 hg7 hc2
                      go_wp2_with fail
                      go_roundg (ks.length - (p + 1))
                      case measure => omega
                      case rel => exact ⟨p + 1, _, by go_num, by omega, rfl, HM7.out, by rw [Hnx.out]; exact HN7.out, Ha7.out, Hb7.out⟩
                    · obtain ⟨w7, hrun, hM7, hg7⟩ := hMa.update (string_kind Try.underlying9) Try.underlying45 m.k (.string m.v)
                      have HM7 := Lib.hid hM7
                      have Ha7 := Lib.hid ((Ha.out.alloc _).grown hg7)
                      have Hb7 := Lib.hid (show Below w.heap.size w w7 from (up1 Hb6.out (Nat.le_refl _) _).grown hg7 (by have := Hb6.out.size; simp; omega) (fun k hk => by cases hk; omega))
                      have HN7 := Lib.hid (HN.out.put hc2)
                      have c2 : (m.c == 2) = false := by simpa using hc2
                      clear hMa hM7 hg7 hc2
                      go_wp2_with fail
                      go_roundg (ks.length - (p + 1))
                      case measure => omega
                      case rel => exact ⟨p + 1, _, by go_num, by omega, rfl, HM7.out, by rw [Hnx.out]; exact HN7.out, Ha7.out, Hb7.out⟩
                  · obtain rfl : p = ks.length := by omega
                    rw [List.take_length] at HN
                    obtain ⟨la, lc, rfl⟩ := own_slice HB.out.own
                    have Ho6 := Lib.hid (own_apart (own_below HB.out.own Hb.out) HM3.out Ha.out)
                    have hX6 := HX.out.apart Ha.out (by omega)
                    have x0 : w6.cell? ⟨w2.heap.size, 0, none⟩ = some (.int .u64 (2 * (i : Int) + 1)) := hX6.cell 0
                    have x1 : w6.cell? ⟨w2.heap.size, 1, none⟩ = some (.int .u64 (2 * (i : Int) + 2)) := hX6.cell 1
                    have x2 : w6.cell? ⟨w2.heap.size, 2, none⟩ = some (.slice ra ks.length rc) := hX6.cell 2
                    have x3 : w6.cell? ⟨w2.heap.size, 3, none⟩ = some (.slice va ks.length vc) := hX6.cell 3
                    have hlt62 : w2.heap.size < w6.heap.size := hX6.lt
                    have hkok : wsB ks = true := by rw [← Hks.out]; exact kept_ok _ [] rfl
                    have Hkok := Lib.hid hkok
                    have hL30 : L.length < 30 := by have := HLi.out; omega
                    have hs6 : w.heap.size ≤ w6.heap.size := Hb6.out.size
                    clear hX6 hkok
                    obtain ⟨i0, hi, hz0, hz1, hz2⟩ := info_parts Try.info34
                    go_wp2_with (at_builtin; refine wpList_append_own _ rfl _ _ 22 rfl (w.heap.size) 34 i0 _ 4 64 Try.underlying22 hi hz0 hz1 hz2 rfl (by decide) _ _ _ rfl (Ho6.out.alloc _) ⟨w6.heap.size, 0, none⟩ 1 1 (rawC1 (Raw.mk (newTx i ks now) (.slice ra ks.length rc) (.slice va ks.length vc))) rfl rfl (cells_new w6 34 (rawC1 (Raw.mk (newTx i ks now) (.slice ra ks.length rc) (.slice va ks.length vc)))) (raw_ones _ _ _ _ _ _ _) ?c3 ?c4 ?c5 ?_)
                    case c3 => first | omega | (unfold maxLen; omega)
                    case c4 => omega
                    case c5 => first | omega | (simp; omega)
                    intro v1 w7 hown7 hg7 _
                    have hLi := HLi.out
                    clear x0 x1 x2 x3 hi hz0 hz1 hz2
                    subst hLi
                    have HB7 := Lib.hid (Built.more HB.out Hb.out Hkok.out (by omega) Hr.out Hw.out HM.out HN.out Ha.out Hb6.out hown7 hg7)
                    clear hown7 hg7
                    go_wp2_with fail
                    go_roundg (30 - (L.length + 1))
                    case measure => omega
                    case rel => exact ⟨L.length + 1, _, _, by go_num, by omega, by omega, by simp, rfl, HB7.out⟩
        · have h30i : ¬ (i : Int) < 30 := by omega
          have hlti : (i : Int) < (xs.length : Int) := by omega
          go_wp2_with fail
          go_meet
          case rel => exact ⟨L, now, by have := HLi.out; omega, HB.out⟩
      · have hlti : ¬ (i : Int) < (xs.length : Int) := by omega
        go_wp2_with fail
        go_meet
        case rel => exact ⟨L, now, by have := HLi.out; omega, HB.out⟩
  case rest =>
    obtain ⟨L, now, hL, hB⟩ := hcut
    obtain ⟨la, lc, rfl⟩ := own_slice hB.own
    have hR := (row_raw hB.own (fun r hr => (hB.raws r hr).ok)).1
    obtain ⟨m0, hM, hN⟩ := hB.map
    have hbel := hB.bel
    have hser := hB.ser
    have hll : L.length = (L.map Raw.x).length := by rw [List.length_map]
    have hsz : Sized (L.map Raw.x) := by
      refine ⟨by rw [List.length_map]; omega, fun x hx => ?_, fun x hx => ?_, fun x hx => ?_⟩
      · obtain ⟨r, hr, rfl⟩ := List.mem_map.1 hx
        exact (hB.small r hr).1
      · obtain ⟨r, hr, rfl⟩ := List.mem_map.1 hx
        exact (hB.small r hr).2
      · obtain ⟨k, hk⟩ := List.mem_iff_getElem?.1 hx
        have := (hser.tx k x hk).2.1
        omega
    rw [hll] at hR hL ⊢
    generalize L.map Raw.x = l at hR hL hser hsz ⊢
    have HR := Lib.hid hR
    have HM := Lib.hid hM
    have HN := Lib.hid hN
    have Hb := Lib.hid hbel
    have HS := Lib.hid hsz
    have Hser := Lib.hid hser
    have hcl := hser.clean (by omega)
    have Hcl := Lib.hid hcl
    clear hR hM hN hbel hsz hser hcl hll hB hmm Hin
    go_wp2_with fail
    refine (look_calls _ _ l _ HR.out HS.out).mono ?_
    rintro e w5 ⟨rfl, hb5⟩
    rw [Hcl.out.1, Hcl.out.2]
    have HR5 := Lib.hid (txs_below HR.out hb5)
    have HM5 := Lib.hid (HM.out.below hb5)
    have Hb5 := Lib.hid (then_ Hb.out (Nat.le_refl _) hb5)
    clear hb5
    simp only [fltV, noFlt]
    go_wp2_with fail
    obtain ⟨W, hW⟩ : ∃ W, w5.alloc (.cells #[.int .i64 0, .int .i64 0, .int .i64 0, .string { data := #[] }] 27) = W := ⟨_, rfl⟩
    rw [hW]
    have HRW := Lib.hid (show RowOf TxAt W la l.length l by rw [← hW]; exact txs_below HR5.out (new1 w5 _))
    have HMW := Lib.hid (show MapIs (fun s : ByteArray => Value.string s) W (w1.heap.size + 1) m0 by rw [← hW]; exact HM5.out.alloc _)
    have HbW := Lib.hid (show Below w.heap.size w W by rw [← hW]; exact up1 Hb5.out (Nat.le_refl _) _)
    clear hW
    go_loopg [150] l.length (fun g u wr => ∃ n : Nat, u = .int .i64 n ∧ n ≤ l.length ∧ g = l.length - n ∧ Below W.heap.size W wr)
    case atStart => exact ⟨0, rfl, by omega, by omega, Below.refl _ _⟩
    case round =>
      obtain ⟨n, rfl, hn, rfl, hb⟩ := hrel
      obtain ⟨w6, hw6⟩ : ∃ w6, w6 = wr := ⟨_, rfl⟩
      subst hw6
      by_cases hlt : n < l.length
      · obtain ⟨b, off, x, rfl, hblt, hx, e0, e1, ⟨ra, rc, e2, g3⟩, wa, wcap, e4, g5⟩ := HRW.out.get hlt
        rw [← hb.cell (by exact hblt)] at e4
        have G5 := Lib.hid (mts_below g5 hb)
        have hlti : (n : Int) < (l.length : Int) := by omega
        have hxw := HS.out.ws x (List.mem_of_getElem? hx)
        have hb6 : b < w6.heap.size := by have := hb.size; omega
        have Hb6 := Lib.hid hb
        clear e0 e1 e2 g3 g5 hx hb
        go_wp2_with fail
        clear e4
        go_loopg [159] x.ws.length (fun g u wr => ∃ q : Nat, u = .int .i64 q ∧ q ≤ x.ws.length ∧ g = x.ws.length - q ∧ Below w6.heap.size w6 wr)
        case atStart => exact ⟨0, rfl, by omega, by omega, Below.refl _ _⟩
        case round =>
          obtain ⟨q, rfl, hq, rfl, hb⟩ := hrel
          obtain ⟨w7, hw7⟩ : ∃ w7, w7 = wr := ⟨_, rfl⟩
          subst hw7
          have Hb7 := Lib.hid hb
          have Hb7W := Lib.hid (then_ Hb6.out (Nat.le_refl _) hb)
          clear hb
          by_cases hltq : q < x.ws.length
          · obtain ⟨b7, off7, m, hwa, hblt7, hm, e0, e1, e2⟩ := (mts_below G5.out Hb7.out).get hltq
            subst hwa
            have hltqi : (q : Int) < (x.ws.length : Int) := by omega
            clear hm
            go_wp2_with fail
            refine (value_calls _ _ l m.k 1099511627776 _ (txs_below HRW.out (up1 Hb7W.out (Nat.le_refl _) _)) HS.out).mono ?_
            rintro e w8 ⟨rfl, hb8⟩
            rw [Hser.out.now m.k 1099511627776 (by omega)]
            have h8 := (Blk.new w7 40 #[.string m.k, .int .i64 m.c, .string m.v]).on hb8
            have y0 : w8.cell? ⟨w7.heap.size, 0, none⟩ = some (.string m.k) := h8.cell 0
            have hlt78 : w7.heap.size < w8.heap.size := h8.lt
            have hb8w : Below w6.heap.size w6 w8 := then_ (up1 Hb7.out (Nat.le_refl _) _) (Nat.le_refl _) hb8
            have Hb8 := Lib.hid hb8w
            have hlk := (HMW.out.below (then_ Hb6.out (Nat.le_refl _) hb8w)).lookup_ok (string_kind Try.underlying9) Try.underlying45 (z := .string { data := #[] }) (by kernel_rfl) m.k
            rw [HN.out.2 m.k, (read_now now m).1, (read_now now m).2] at hlk
            have r1 : (now m.k).getD { data := #[] } = (readOf now m).v := rfl
            have r2 : (now m.k).isSome = (readOf now m).i := rfl
            rw [r1, r2]
            generalize readOf now m = rd at hlk
            clear r1 r2 h8 hb8 hb8w e0 e1 e2
            go_wp2_with fail
            go_roundg (x.ws.length - (q + 1))
            case measure => omega
            case rel => exact ⟨q + 1, by go_num, by omega, rfl, Hb8.out⟩
          · obtain rfl : q = x.ws.length := by omega
            go_wp2_with fail
            go_roundg (l.length - (n + 1))
            case measure => omega
            case rel => exact ⟨n + 1, by go_num, by omega, rfl, Hb7W.out⟩
      · have hlti : ¬ (n : Int) < (l.length : Int) := by omega
        have Hb6 := Lib.hid (then_ HbW.out (Nat.le_refl _) hb)
        clear hb
        go_wp2_with fail
        go_ret
        exact ⟨rfl, Hb6.out⟩

end Go.Proofs.Ytghmjconljdapaa
