/- The walk over HistMore. -/
import Derived.Test.YtghmjconljdapaaQ3
namespace Go.Proofs.Ytghmjconljdapaa
open Go.RowKit

theorem orderPost_len {xs : List Tx} {w : World} {e : Ending} {w' : World} (h : OrderPost xs w e w') : ∃ ao cap, e = .returned (.slice ao (commTo xs xs.length).length cap) ∧ Below w.heap.size w w' := by
  obtain ⟨ao, cap, os, rfl, _, hp, _, hb⟩ := h
  exact ⟨ao, cap, by rw [hp.length_eq], hb⟩

set_option maxRecDepth 100000 in
set_option maxHeartbeats 8000000 in
theorem more_calls (ao : Option Addr) (c : Nat) (xs : List Tx) (t : Int) (w : World) (h : RowOf TxAt w ao xs.length xs) (hn : ∀ x ∈ xs, 0 ≤ x.t) (hc : ao = none → c = 0) :
    Calls Try.prog 3 #[.slice ao xs.length c, .int .u64 t] w fun e w' => e = .returned (.bool true) ∧ Below w.heap.size w w' := by
  have H := Lib.hid h
  have Hn := Lib.hid hn
  obtain ⟨L, hL, hok, hsrc⟩ := raw_of_row h hc
  have HL := Lib.hid hL
  have Hok := Lib.hid hok
  have Hsrc := Lib.hid hsrc
  clear h hn hc hL hok hsrc
  go_enter Try.func3, Try.ntmps3
  go_wp2_with fail
  refine (awake_calls _).mono ?_
  rintro e w1 ⟨rfl, hb1⟩
  have H1 := Lib.hid (txs_below H.out hb1)
  have Hb1 := Lib.hid hb1
  clear hb1
  go_wp2_with fail
  refine (large_calls _ _ xs _ H1.out).mono ?_
  rintro e w1 ⟨rfl, rfl⟩
  cases hl : largeL xs with
  | true =>
    clear hl
    go_wp2_with fail
    go_ret
    exact ⟨rfl, Hb1.out⟩
  | false =>
    obtain ⟨hsz, h40⟩ := sized_of hl Hn.out
    have HS := Lib.hid hsz
    clear hl hsz
    by_cases h1 : t < 1
    · go_wp2_with fail
      go_ret
      exact ⟨rfl, Hb1.out⟩
    · by_cases h2 : 1099511627776 ≤ t
      · go_wp2_with fail
        go_ret
        exact ⟨rfl, Hb1.out⟩
      · go_wp2_with fail
        refine (look_calls _ _ xs _ H1.out HS.out).mono ?_
        rintro e w2 ⟨rfl, hb2⟩
        have Hb2 := Lib.hid (then_ Hb1.out (Nat.le_refl _) hb2)
        have hs2 := Hb2.out.size
        obtain ⟨E, hE⟩ : ∃ E, errOf xs = E := ⟨_, rfl⟩
        obtain ⟨f, hf⟩ : ∃ f, faultOf xs = f := ⟨_, rfl⟩
        rw [hE, hf]
        have HE := Lib.hid hE
        have Hf := Lib.hid hf
        clear hb2 hE hf
        unfold fltV
        obtain ⟨W, hW⟩ : ∃ W, w2.alloc (.cells #[.int .i64 f.kind, .int .i64 f.first, .int .i64 f.second, .string f.key] 27) = W := ⟨_, rfl⟩
        have hF : Blk W w2.heap.size 27 #[.int .i64 f.kind, .int .i64 f.first, .int .i64 f.second, .string f.key] := by rw [← hW]; exact Blk.new _ _ _
        have hbW : Below w.heap.size w W := by rw [← hW]; exact up1 Hb2.out (Nat.le_refl _) _
        have hWs : w.heap.size ≤ W.heap.size := hbW.size
        have hF1 : w2.heap.size < W.heap.size := hF.lt
        have HF := Lib.hid hF
        have HbW := Lib.hid hbW
        have hlenL : L.length = xs.length := by rw [← HL.out, List.length_map]
        have HlenL := Lib.hid hlenL
        have hx40 : xs.length ≤ 40 := h40
        go_upto_region 6 with fail
        clear hW hF hbW hlenL
        obtain ⟨i0, hi, hz0, hz1, hz2⟩ := info_parts Try.info34
        go_wp2_with (at_builtin; refine append_src _ rfl _ _ 22 rfl (W.heap.size) 34 i0 _ 4 64 Try.underlying22 hi hz0 hz1 hz2 rfl (by decide) _ 0 [] rfl (own_empty W 34 4 (Nat.le_refl _)) ao xs.length c (rawC L) rfl ?c1 ?c2 ?c3 ?c4 ?c5 ?c6 ?_)
        case c1 => rw [rawC_len, HlenL.out]
        case c2 => exact Hsrc.out.below (fun a u hu => below_cells (new1 W _) a u (by
          have hb := World.block_lt_of_cell? w _ hu
          rw [HbW.out.cell hb]; exact hu))
        case c3 => exact rawC_ones Hok.out
        case c4 => unfold maxLen; omega
        case c5 => omega
        case c6 => simp
        intro v1 w3 hown3 hg3
        have hb3 : Below W.heap.size W w3 := (new1 W _).grown hg3 (by simp) (fun k hk => by simp only [Value.ownBlock, Option.some.injEq] at hk; omega)
        have hs3 := hb3.size
        clear hg3
        go_wp2_with (at_builtin; refine wpList_append_own _ rfl _ _ 22 rfl (W.heap.size) 34 i0 _ 4 64 Try.underlying22 hi hz0 hz1 hz2 rfl (by decide) _ _ _ rfl (hown3.alloc _) ⟨w3.heap.size, 0, none⟩ 1 1 (rawC1 (Raw.mk (emptyTx t (t + 1)) (.slice none 0 0) (.slice none 0 0))) rfl rfl ?d1 ?d2 ?d3 ?d4 ?d5 ?_)
        case d1 => exact cells_new w3 34 (rawC1 (Raw.mk (emptyTx t (t + 1)) (.slice none 0 0) (.slice none 0 0)))
        case d2 =>
          intro u hu
          simp only [rawC1, List.mem_cons, List.not_mem_nil, or_false] at hu
          rcases hu with rfl | rfl | rfl | rfl <;> rfl
        case d3 => unfold maxLen; omega
        case d4 => omega
        case d5 => simp; omega
        intro v2 w4 hown4 hg4 _
        have hb4 : Below W.heap.size W w4 := (up1 hb3 (Nat.le_refl _) _).grown hg4 (by simp; omega) (fun k hk => (hown3.lt k hk).1)
        have hown5 : w4.ownsRow W.heap.size 34 4 v2 (L ++ [Raw.mk (emptyTx t (t + 1)) (.slice none 0 0) (.slice none 0 0)]).length (rawC (L ++ [Raw.mk (emptyTx t (t + 1)) (.slice none 0 0) (.slice none 0 0)])) := by
          have h1 := HlenL.out
          simpa [rawC, h1] using hown4
        obtain ⟨va, vc, rfl⟩ := own_slice hown5
        obtain ⟨hR, _⟩ := row_raw hown5 (fun r hr => by
          rcases List.mem_append.1 hr with hr | hr
          · exact ((Hok.out r hr).below HbW.out).below hb4
          · rw [List.mem_singleton.1 hr]
            exact ⟨⟨none, 0, rfl, row_rd0⟩, none, 0, rfl, row_mt0⟩)
        have hmap : (L ++ [Raw.mk (emptyTx t (t + 1)) (.slice none 0 0) (.slice none 0 0)]).map Raw.x = xs ++ [emptyTx t (t + 1)] := by rw [List.map_append, HL.out]; rfl
        rw [hmap] at hR
        have hlm : (L ++ [Raw.mk (emptyTx t (t + 1)) (.slice none 0 0) (.slice none 0 0)]).length = (xs ++ [emptyTx t (t + 1)]).length := by rw [← hmap, List.length_map]
        rw [hlm] at hR ⊢
        have hSm : Sized (xs ++ [emptyTx t (t + 1)]) := by
          have h1 := HS.out
          refine ⟨by simp; omega, fun x hx => ?_, fun x hx => ?_, fun x hx => ?_⟩
          · rcases List.mem_append.1 hx with hx | hx
            · exact h1.rs x hx
            · rw [List.mem_singleton.1 hx]; simp [emptyTx]
          · rcases List.mem_append.1 hx with hx | hx
            · exact h1.ws x hx
            · rw [List.mem_singleton.1 hx]; simp [emptyTx]
          · rcases List.mem_append.1 hx with hx | hx
            · exact h1.tn x hx
            · rw [List.mem_singleton.1 hx]; simp only [emptyTx]; omega
        obtain ⟨ms, hms⟩ : ∃ ms, xs ++ [emptyTx t (t + 1)] = ms := ⟨_, rfl⟩
        have hmlen : ms.length ≤ 41 := by rw [← hms, List.length_append, List.length_singleton]; omega
        rw [hms] at hR hSm ⊢
        have HR := Lib.hid hR
        have HSm := Lib.hid hSm
        have HF4 := Lib.hid (HF.out.on hb4)
        have Hb4 := Lib.hid (then_ HbW.out (Nat.le_refl _) hb4)
        have Hms := Lib.hid hms
        clear hR hSm hown3 hown4 hown5 hg4 hb3 hb4 hi hz0 hz1 hz2 hmap hlm hms
        by_cases hE0 : E = 0
        · subst hE0
          go_wp2_with fail
          refine (mayL_calls _ _ ms _ HR.out HSm.out).mono ?_
          rintro e w5 ⟨rfl, hb5⟩
          have HR5 := Lib.hid (txs_below HR.out hb5)
          have HF5 := Lib.hid (HF4.out.on hb5)
          have Hb5 := Lib.hid (then_ Hb4.out (Nat.le_refl _) hb5)
          clear hb5
          cases hmm : mayL ms with
          | false =>
            clear hmm
            go_wp2_with fail
            go_ret
            exact ⟨rfl, Hb5.out⟩
          | true =>
            have hlaw := more_law (l := xs) (s := t) (c := t + 1) (by rw [Hms.out]; exact hmm)
            rw [Hms.out] at hlaw
            have Hlaw := Lib.hid hlaw
            clear hmm hlaw
            go_wp2_with fail
            refine (look_calls _ _ ms _ HR5.out HSm.out).mono ?_
            rintro e w6 ⟨rfl, hb6⟩
            rw [Hlaw.out.1, Hlaw.out.2, Hf.out]
            have HR6 := Lib.hid (txs_below HR5.out hb6)
            have HF6 := Lib.hid (HF5.out.on hb6)
            have Hb6 := Lib.hid (then_ Hb5.out (Nat.le_refl _) hb6)
            clear hb6
            unfold fltV
            have c0 : w6.cell? ⟨w2.heap.size, 0, none⟩ = some (.int .i64 f.kind) := HF6.out.cell 0
            have c1 : w6.cell? ⟨w2.heap.size, 1, none⟩ = some (.int .i64 f.first) := HF6.out.cell 1
            have c2 : w6.cell? ⟨w2.heap.size, 2, none⟩ = some (.int .i64 f.second) := HF6.out.cell 2
            have c3 : w6.cell? ⟨w2.heap.size, 3, none⟩ = some (.string f.key) := HF6.out.cell 3
            have cl := HF6.out.lt
            have hA : (commTo ms ms.length).length = (commTo xs xs.length).length + 1 := by rw [← Hms.out]; exact comm_more xs t (t + 1) (by omega)
            have hB : (commTo xs xs.length).length ≤ xs.length := comm_len xs xs.length
            have HO1 := Lib.hid (sort_any (m := (commTo ms ms.length).length) (by rw [hA]; omega))
            have HO2 := Lib.hid (sort_any (m := (commTo xs xs.length).length) (by omega))
            have HA := Lib.hid hA
            clear hA
            go_wp2_with fail
            refine (order_calls _ _ ms _ (txs_below HR6.out (new1 _ _)) HSm.out HO1.out).mono ?_
            intro e w7 hP
            obtain ⟨ao7, cap7, rfl, hb7⟩ := orderPost_len hP
            rw [HA.out]
            have Hb7 := Lib.hid (then_ Hb6.out (Nat.le_refl _) (then_ (new1 w6 _) (Nat.le_refl _) hb7))
            have H7 := Lib.hid (txs_below H.out Hb7.out)
            clear hP hb7 c0 c1 c2 c3
            obtain ⟨B, hBe⟩ : ∃ B, (commTo xs xs.length).length = B := ⟨_, rfl⟩
            rw [hBe] at hB ⊢
            have HBe := Lib.hid hBe
            clear hBe
            go_wp2_with fail
            refine (order_calls _ _ xs _ H7.out HS.out HO2.out).mono ?_
            intro e w8 hP
            obtain ⟨ao8, cap8, rfl, hb8⟩ := orderPost_len hP
            rw [HBe.out]
            have Hb8 := Lib.hid (then_ Hb7.out (Nat.le_refl _) hb8)
            clear hP hb8
            go_wp2_with fail
            go_ret
            exact ⟨rfl, Hb8.out⟩
        · have hE1 : (E != 0) = true := by simpa using hE0
          go_wp2_with fail
          go_ret
          exact ⟨rfl, Hb4.out⟩

end Go.Proofs.Ytghmjconljdapaa
