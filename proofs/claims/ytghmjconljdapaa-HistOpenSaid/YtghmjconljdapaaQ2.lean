/- The walk over HistOpen. -/
import Derived.Test.YtghmjconljdapaaQ
namespace Go.Proofs.Ytghmjconljdapaa
open Go.RowKit

def natsI (pl : List Nat) : List Int := pl.map fun k : Nat => (k : Int)

def OpenRel (xs : List Tx) (w : World) (g : Nat) (v u i : Value) (wr : World) : Prop :=
  ∃ (n : Nat) (L : List Raw) (pl : List Nat), i = .int .i64 n ∧ n ≤ xs.length ∧ g = xs.length - n ∧ Kept xs n (L.map Raw.x) pl ∧ L.map Raw.x = (xs.take n).filter (fun x => decide (0 < x.t)) ∧ (∀ r ∈ L, RawOk w r) ∧
    wr.ownsRow w.heap.size 34 4 v L.length (rawC L) ∧ wr.ownsRow w.heap.size 3 1 u (natsI pl).length (intsV (natsI pl)) ∧ Below w.heap.size w wr

set_option maxRecDepth 100000 in
set_option maxHeartbeats 8000000 in
theorem open_calls (ao : Option Addr) (c : Nat) (xs : List Tx) (w : World) (h : RowOf TxAt w ao xs.length xs) (hn : ∀ x ∈ xs, 0 ≤ x.t) :
    Calls Try.prog 8 #[.slice ao xs.length c] w fun e w' => e = .returned (.bool true) ∧ Below w.heap.size w w' := by
  have H := Lib.hid h
  have Hn := Lib.hid hn
  clear h hn
  go_enter Try.func8, Try.ntmps8
  go_wp2_with fail
  refine (awake_calls _).mono ?_
  rintro e w1 ⟨rfl, hb1⟩
  have H1 := Lib.hid (txs_below H.out hb1)
  have Hb1 := Lib.hid hb1
  clear hb1
  go_wp2_with fail
  refine (large_calls _ _ xs _ H1.out).mono ?_
  rintro e w1 ⟨rfl, rfl⟩
  cases hl : largeL xs with
  | true =>
    clear hl
    go_wp2_with fail
    go_ret
    exact ⟨rfl, Hb1.out⟩
  | false =>
    obtain ⟨hsz, h40⟩ := sized_of hl Hn.out
    have HS := Lib.hid hsz
    clear hl hsz
    go_wp2_with fail
    refine (mayL_calls _ _ xs _ H1.out HS.out).mono ?_
    rintro e w2 ⟨rfl, hb2⟩
    have H2 := Lib.hid (txs_below H1.out hb2)
    have Hb2 := Lib.hid (then_ Hb1.out (Nat.le_refl _) hb2)
    clear hb2
    cases hm : mayL xs with
    | false =>
      clear hm
      go_wp2_with fail
      go_ret
      exact ⟨rfl, Hb2.out⟩
    | true =>
      have Hm := Lib.hid hm
      have hs2 := Hb2.out.size
      clear hm
      go_wp2_with fail
      go_loopg [3, 4, 23] xs.length (fun g v u i wr => OpenRel xs w g v u i wr)
      case atStart => exact ⟨0, [], [], rfl, by omega, by omega, Kept.nil _, rfl, by simp, (own_empty w2 34 4 hs2).alloc _, by simpa [intsV, natsI] using own_empty (base := w.heap.size) (w2.alloc (.cells #[] 34)) 3 1 (by simp; omega), up1 (up1 Hb2.out (Nat.le_refl _) _) (Nat.le_refl _) _⟩
      case round =>
        obtain ⟨n, L, pl, rfl, hn, rfl, hK, hfil, hL, hown, howp, hb⟩ := hrel
        obtain ⟨va, vc, rfl⟩ := own_slice hown
        obtain ⟨pa, pc, rfl⟩ := own_slice howp
        have hsz := hb.size
        have HK := Lib.hid hK
        have Hfil := Lib.hid hfil
        have HL := Lib.hid hL
        have hlenL : L.length ≤ n := by
          have := congrArg List.length hfil
          rw [List.length_map] at this
          rw [this]
          refine Nat.le_trans (List.length_filter_le _ _) ?_
          rw [List.length_take]
          omega
        have hlenp : (natsI pl).length ≤ n := by unfold natsI; rw [List.length_map, hK.len, List.length_map]; exact hlenL
        clear hK hfil hL
        by_cases hlt : n < xs.length
        · obtain ⟨b, off, x, rfl, hblt, hx, e0, e1, ⟨ra, rc, e2, h3⟩, wa, wcap, e4, h5⟩ := H.out.get hlt
          rw [← hb.cell (by exact hblt)] at e0 e1 e2 e4
          have hlti : (n : Int) < (xs.length : Int) := by omega
          have Hx := Lib.hid hx
          by_cases ht : 0 < x.t
          · have HK2 := Lib.hid (show Kept xs (n + 1) ((L ++ [Raw.mk x (.slice ra x.rs.length rc) (.slice wa x.ws.length wcap)]).map Raw.x) (pl ++ [n]) by rw [List.map_append]; exact HK.out.snoc hx ht)
            have Hf2 := Lib.hid (show (L ++ [Raw.mk x (.slice ra x.rs.length rc) (.slice wa x.ws.length wcap)]).map Raw.x = (xs.take (n + 1)).filter (fun x => decide (0 < x.t)) by rw [take_snoc' hx, List.filter_append, List.map_append, Hfil.out]; simp [ht])
            have hraw : RawOk w (Raw.mk x (.slice ra x.rs.length rc) (.slice wa x.ws.length wcap)) := ⟨⟨ra, rc, rfl, h3⟩, wa, wcap, rfl, h5⟩
            have HL2 := Lib.hid (show ∀ r ∈ L ++ [Raw.mk x (.slice ra x.rs.length rc) (.slice wa x.ws.length wcap)], RawOk w r by
              intro r hr
              rcases List.mem_append.1 hr with hr | hr
              · exact HL.out r hr
              · rw [List.mem_singleton.1 hr]; exact hraw)
            have H1c := Lib.hid (rawC_one hraw)
            clear hx h3 h5 hraw
            obtain ⟨i0, hi, hz0, hz1, hz2⟩ := info_parts Try.info34
            go_wp2_with (at_builtin; refine wpList_append_own _ rfl _ _ 22 rfl (w.heap.size) 34 i0 _ 4 64 Try.underlying22 hi hz0 hz1 hz2 rfl (by decide) _ _ _ rfl (hown.alloc _) ⟨wr.heap.size, 0, none⟩ 1 1 (rawC1 (Raw.mk x (.slice ra x.rs.length rc) (.slice wa x.ws.length wcap))) rfl rfl ?c1 H1c.out ?c3 ?c4 ?c5 ?_)
            case c1 => exact cells_new wr 34 (rawC1 (Raw.mk x (.slice ra x.rs.length rc) (.slice wa x.ws.length wcap)))
            case c3 => unfold maxLen; omega
            case c4 => omega
            case c5 => simp; omega
            intro v1 w4 hown4 hg4 _
            have hb4 : Below w.heap.size w w4 := (up1 hb (Nat.le_refl _) _).grown hg4 (by simp; omega) (fun k hk => (hown.lt k hk).1)
            have howp4 := (howp.alloc (.cells (rawC1 (Raw.mk x (.slice ra x.rs.length rc) (.slice wa x.ws.length wcap))).toArray 34)).kept hg4 (own_two howp hown (by decide))
            have hs4 := hb4.size
            clear hg4 hi hz0 hz1 hz2 hown howp hb
            obtain ⟨i1, hi, hz0, hz1, hz2⟩ := info_parts Try.info3
            go_wp2_with (at_builtin; refine wpList_append_own _ rfl _ _ 35 rfl (w.heap.size) 3 i1 _ 1 8 Try.underlying35 hi hz0 hz1 hz2 rfl (by decide) _ _ _ rfl (howp4.alloc _) ⟨w4.heap.size, 0, none⟩ 1 1 [.int .i64 n] rfl rfl ?d1 ?d2 ?d3 ?d4 ?d5 ?_)
            case d1 => exact cells_new w4 3 [.int .i64 n]
            case d2 => intro u hu; simp only [List.mem_singleton] at hu; subst hu; rfl
            case d3 => unfold maxLen; omega
            case d4 => omega
            case d5 => simp; omega
            intro v2 w5 hown5 hg5 _
            have hb5 : Below w.heap.size w w5 := (up1 hb4 (Nat.le_refl _) _).grown hg5 (by simp; omega) (fun k hk => (howp4.lt k hk).1)
            have Hown := Lib.hid (show w5.ownsRow w.heap.size 34 4 v1 (L ++ [Raw.mk x (.slice ra x.rs.length rc) (.slice wa x.ws.length wcap)]).length (rawC (L ++ [Raw.mk x (.slice ra x.rs.length rc) (.slice wa x.ws.length wcap)])) by
              have := (hown4.alloc (.cells #[.int .i64 n] 3)).kept hg5 (own_two hown4 howp4 (by decide))
              simpa [rawC] using this)
            have Howp := Lib.hid (show w5.ownsRow w.heap.size 3 1 v2 (natsI (pl ++ [n])).length (intsV (natsI (pl ++ [n]))) by simpa [natsI, intsV] using hown5)
            have Hb5 := Lib.hid hb5
            clear hg5 hi hz0 hz1 hz2 hown4 howp4 hown5 hb4 hb5
            go_wp2_with fail
            go_roundg (xs.length - (n + 1))
            case measure => omega
            case rel => exact ⟨n + 1, _, _, by go_num, by omega, rfl, HK2.out, Hf2.out, HL2.out, Hown.out, Howp.out, Hb5.out⟩
          · have HK2 := Lib.hid (HK.out.skip hx ht)
            have Hf2 := Lib.hid (show L.map Raw.x = (xs.take (n + 1)).filter (fun x => decide (0 < x.t)) by rw [take_snoc' hx, List.filter_append, Hfil.out]; simp [ht])
            have Hown := Lib.hid hown
            have Howp := Lib.hid howp
            have Hb := Lib.hid hb
            clear hx h3 h5 hown howp hb
            go_wp2_with fail
            go_roundg (xs.length - (n + 1))
            case measure => omega
            case rel => exact ⟨n + 1, _, _, by go_num, by omega, rfl, HK2.out, Hf2.out, HL.out, Hown.out, Howp.out, Hb.out⟩
        · obtain rfl : n = xs.length := by omega
          have hlaw := open_law HK.out (by rw [Hfil.out, List.take_length]) Hm.out Hn.out
          have hszr : Sized (L.map Raw.x) := by
            rw [Hfil.out, List.take_length]
            exact ⟨Nat.le_trans (List.length_filter_le _ _) HS.out.len, fun y hy => HS.out.rs y (List.mem_filter.1 hy).1, fun y hy => HS.out.ws y (List.mem_filter.1 hy).1, fun y hy => HS.out.tn y (List.mem_filter.1 hy).1⟩
          obtain ⟨hR, _⟩ := row_raw hown (fun r hr => (HL.out r hr).below hb)
          obtain ⟨hI, _⟩ := ints_of_own howp
          obtain ⟨rest, hrest⟩ : ∃ rest, L.map Raw.x = rest := ⟨_, rfl⟩
          have hll : L.length = rest.length := by rw [← hrest, List.length_map]
          rw [hrest] at hlaw hszr hR
          rw [hll] at hR ⊢
          have hR' := Lib.hid hR
          have HSr := Lib.hid hszr
          have HI := Lib.hid hI
          have HX := Lib.hid (txs_below H.out hb)
          have Hb := Lib.hid hb
          obtain ⟨he1, he2, hways⟩ := hlaw
          have He1 := Lib.hid he1
          have He2 := Lib.hid he2
          clear hR hszr hI hb hown howp hrest hll he1 he2
          go_wp2_with fail
          refine (look_calls _ _ xs _ HX.out HS.out).mono ?_
          rintro e w4 ⟨rfl, hb4⟩
          rw [He1.out]
          have HR4 := Lib.hid (txs_below hR'.out (hb4.trans (Below.refl _ _)))
          have HI4 := Lib.hid (HI.out.below hb4)
          have Hb4 := Lib.hid (then_ Hb.out (Nat.le_refl _) hb4)
          clear hb4
          obtain ⟨f, hf⟩ : ∃ f, faultOf xs = f := ⟨_, rfl⟩
          obtain ⟨f2, hf2⟩ : ∃ f2, faultOf rest = f2 := ⟨_, rfl⟩
          rw [hf, hf2] at hways
          rw [hf]
          have Hf := Lib.hid hf
          have Hf2 := Lib.hid hf2
          clear hf hf2
          unfold fltV
          go_wp2_with fail
          refine (look_calls _ _ rest _ (txs_below HR4.out (new1 _ _)) HSr.out).mono ?_
          rintro e w5 ⟨rfl, hb5⟩
          rw [He2.out, Hf2.out]
          have hF5 := ((blk1 w4 27 #[.int .i64 f.kind, .int .i64 f.first, .int .i64 f.second, .string f.key]).on hb5)
          have HI5 := Lib.hid ((HI4.out.below (new1 w4 _)).below hb5)
          have Hb5 := Lib.hid (then_ Hb4.out (Nat.le_refl _) (then_ (new1 w4 _) (Nat.le_refl _) hb5))
          clear hb5
          unfold fltV
          have hlt5 := hF5.lt
          rcases hways with ⟨rfl, rfl⟩ | hsame
          · have k0 : w5.cell? ⟨w4.heap.size, 0, none⟩ = some (.int .i64 0) := hF5.cell 0
            have k3 : w5.cell? ⟨w4.heap.size, 3, none⟩ = some (.string { data := #[] }) := hF5.cell 3
            unfold noFlt
            clear hF5
            go_wp2_with fail
            go_ret
            exact ⟨rfl, up1 Hb5.out (Nat.le_refl _) _⟩
          · obtain ⟨hk, hkey, h12, ⟨i, k, hfi, hgk, hpl⟩, j, q, hsec, hq, hor⟩ := hsame
            obtain ⟨K, I, S, key⟩ := f
            obtain ⟨K2, I2, S2, key2⟩ := f2
            simp only at hk hkey h12 hfi hgk hsec hor hF5 ⊢
            subst hk hkey hfi hgk hsec
            have hlp : (natsI pl).length = pl.length := by unfold natsI; rw [List.length_map]
            have hkl := (List.getElem?_eq_some_iff.1 hpl).1
            obtain ⟨pb, rfl, hpb, hat⟩ := HI5.out (by omega)
            have ck : w5.cell? ⟨pb, k, none⟩ = some (.int .i64 i) := hat k i (by unfold natsI; rw [List.getElem?_map, hpl]; rfl)
            have hki : (k : Int) < ((natsI pl).length : Int) := by omega
            have hqi : (q : Int) < ((natsI pl).length : Int) := by omega
            have k0 : w5.cell? ⟨w4.heap.size, 0, none⟩ = some (.int .i64 K) := hF5.cell 0
            have k1 : w5.cell? ⟨w4.heap.size, 1, none⟩ = some (.int .i64 i) := hF5.cell 1
            have k2 : w5.cell? ⟨w4.heap.size, 2, none⟩ = some (.int .i64 S) := hF5.cell 2
            have k3 : w5.cell? ⟨w4.heap.size, 3, none⟩ = some (.string key) := hF5.cell 3
            have Hlp := Lib.hid hlp
            clear hF5 hlp hpl
            rcases h12 with rfl | rfl
            · clear hor hat
              go_wp2_with fail
              go_quiet (fail)
              go_wp2_with fail
              go_ret
              exact ⟨rfl, below_drewN (up1 Hb5.out (Nat.le_refl _) _) _⟩
            · rcases hor with h | ⟨hS, hpq⟩
              · omega
              · subst hS
                have cq : w5.cell? ⟨pb, q, none⟩ = some (.int .i64 j) := hat q j (by unfold natsI; rw [List.getElem?_map, hpq]; rfl)
                clear hpq hat
                go_wp2_with fail
                go_quiet (fail)
                go_wp2_with fail
                go_ret
                exact ⟨rfl, below_drewN (up1 Hb5.out (Nat.le_refl _) _) _⟩

end Go.Proofs.Ytghmjconljdapaa
