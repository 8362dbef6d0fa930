/- The walks over the reference's readers. -/
import Derived.Test.YtbocdopjikkomaaV
namespace Go.Proofs.Ytbocdopjikkomaa
open Go.RowKit

theorem nil_iff_size (k : ByteArray) : k.toList = [] ↔ k.size = 0 := by
  rw [← List.length_eq_zero_iff, Go.ByteArray.toList_eq, Array.length_toList]
  rfl

theorem nil_dec (k : ByteArray) : decide (k.toList = []) = decide ((k.size : Int) < 1) := by
  rw [decide_eq_decide, nil_iff_size]
  omega

theorem mayB_eq (k : ByteArray) (s : Int) (d : Bool) (v : ByteArray) :
    mayB k s d v = (!decide ((k.size : Int) < 1) && decide ((k.size : Int) ≤ 100) && decide ((v.size : Int) ≤ 100) && (!d || decide (v.toList = [])) && decide (0 < s) && decide (s ≤ 1099511627776)) := by
  rw [← nil_dec]
  rfl

set_option maxHeartbeats 400000 in
theorem rmay_calls (k : ByteArray) (s : Int) (d : Bool) (v : ByteArray) (w : World) :
    Calls Try.prog 31 #[.agg #[.string k, .int .u64 s, .bool d, .string v]] w fun e w' => e = .returned (.bool (mayB k s d v)) ∧ Below w.heap.size w w' := by
  go_enter Try.func31, Try.ntmps31
  go_wp2
  all_goals go_ret
  all_goals refine ⟨?_, (Below.refl _ _).alloc (Nat.le_refl _) _⟩
  all_goals rw [mayB_eq]
  all_goals (first | (simp [*]; done) | (simp_all [nil_iff_size]; done) | (simp_all [nil_iff_size]; intros; omega) | (simp_all [nil_iff_size]; omega))

def PlaceRel (key : ByteArray) (seq : Int) (ns : List Nd) (w0 : World) (g : Nat) (c i : Value) (wr : World) : Prop :=
  ∃ n : Nat, i = .int .i64 n ∧ n ≤ ns.length ∧ g = ns.length - n ∧ c = .int .i64 (aheads key seq (ns.take n) : Nat) ∧ ∃ q, wr = w0.drewN q

theorem aheads_le (key : ByteArray) (seq : Int) (ns : List Nd) (n : Nat) : aheads key seq (ns.take n) ≤ n := by
  have := List.countP_le_length (p := fun n => aheadB n.k n.s key seq) (l := ns.take n)
  rw [List.length_take] at this
  unfold aheads
  omega

set_option maxHeartbeats 1000000 in
theorem place_calls (rb : Nat) (ns : List Nd) (key : ByteArray) (seq : Int) (w : World) (h : RTab rb ns w) (hl : ns.length ≤ 200) :
    Calls Try.prog 32 #[.pointer (some ⟨rb, 0, none⟩), .string key, .int .u64 seq] w fun e w' => e = .returned (.int .i64 (aheads key seq ns : Nat)) ∧ ∃ q, w' = w.drewN q := by
  obtain ⟨la, lc, ha, hc, hB, hL, _⟩ := h
  have c0 : w.cell? ⟨rb, 0, none⟩ = some (.slice la ns.length lc) := hB.cell 0
  have hcap := hL.le
  have HL := Lib.hid hL
  clear hB hL
  go_enter Try.func32, Try.ntmps32
  go_wp2_with fail
  go_loopg [7, 8] ns.length (fun g c i wr => PlaceRel key seq ns w g c i wr)
  case atStart => exact ⟨0, rfl, by omega, by omega, rfl, 0, rfl⟩
  case round =>
    obtain ⟨n, rfl, hn, rfl, rfl, q, rfl⟩ := hrel
    by_cases hlt : n < ns.length
    · obtain ⟨m, hm⟩ : ∃ m, ns[n]? = some m := ⟨ns[n]'hlt, by simp⟩
      obtain ⟨b, off, rfl, hblt, e0, e1, _, _⟩ := HL.out.ent hm
      have Htk := Lib.hid (aheads_take (key := key) (seq := seq) hm)
      have hcl := aheads_le key seq ns n
      have hlti : (n : Int) < (ns.length : Int) := by omega
      generalize hc' : aheads key seq (ns.take n) = cc at hcl
      have Hc := Lib.hid hc'
      clear hm hc'
      by_cases hb : aheadB m.k m.s key seq = true
      · have Ha := Lib.hid hb
        have hah : ∀ W : World, Calls Try.prog 27 #[.string m.k, .int .u64 m.s, .string key, .int .u64 seq] W fun e w' => e = .returned (.bool true) ∧ w' = W := by
          intro W
          have := refAhead_calls m.k m.s key seq W
          rwa [hb] at this
        have Hah := Lib.hid hah
        clear hb hah
        go_wp2_with fail
        go_quiet ((go_at_call 27; exact quiet_more (Hah.out _)))
        go_wp2_with fail
        go_roundg (ns.length - (n + 1))
        case measure => omega
        case rel => exact ⟨n + 1, by go_num, by omega, rfl, by rw [Htk.out, if_pos Ha.out, Hc.out]; go_num, _, rfl⟩
      · have hb' : aheadB m.k m.s key seq = false := by simpa using hb
        have Ha := Lib.hid hb
        have hah : ∀ W : World, Calls Try.prog 27 #[.string m.k, .int .u64 m.s, .string key, .int .u64 seq] W fun e w' => e = .returned (.bool false) ∧ w' = W := by
          intro W
          have := refAhead_calls m.k m.s key seq W
          rwa [hb'] at this
        have Hah := Lib.hid hah
        clear hb hb' hah
        go_wp2_with fail
        go_quiet ((go_at_call 27; exact quiet_more (Hah.out _)))
        go_wp2_with fail
        go_roundg (ns.length - (n + 1))
        case measure => omega
        case rel => exact ⟨n + 1, by go_num, by omega, rfl, by rw [Htk.out, if_neg Ha.out, Hc.out]; go_num, _, rfl⟩
    · have e : aheads key seq (ns.take n) = aheads key seq ns := by rw [List.take_of_length_le (by omega)]
      rw [e]
      clear e
      go_wp2_with fail
      go_ret
      exact ⟨rfl, q, rfl⟩

/-! ### Get -/
def RGetRel (key : ByteArray) (seq : Int) (ns : List Nd) (w0 : World) (g : Nat) (i : Value) (wr : World) : Prop :=
  ∃ n : Nat, i = .int .i64 n ∧ n ≤ ns.length ∧ g = ns.length - n ∧ findM key seq (ns.take n) = none ∧ wr = w0

theorem findM_take_some {ns : List Nd} {key : ByteArray} {seq : Int} {n : Nat} {m : Nd} (hn : ns[n]? = some m) (h0 : findM key seq (ns.take n) = none) (hh : hitB key seq m = true) : findM key seq ns = some m := by
  have h1 := findM_snoc (key := key) (seq := seq) hn
  rw [h0, if_pos ⟨hh, rfl⟩] at h1
  conv => lhs; rw [← List.take_append_drop (n + 1) ns]
  unfold findM at h1 ⊢
  rw [List.find?_append, h1]
  rfl

theorem findM_take_none {ns : List Nd} {key : ByteArray} {seq : Int} {n : Nat} {m : Nd} (hn : ns[n]? = some m) (h0 : findM key seq (ns.take n) = none) (hh : hitB key seq m = false) : findM key seq (ns.take (n + 1)) = none := by
  rw [findM_snoc hn, h0, if_neg (by simp [hh])]

set_option maxHeartbeats 1000000 in
theorem rget_calls (rb : Nat) (ns : List Nd) (key : ByteArray) (seq : Int) (w : World) (h : RTab rb ns w) (hl : ns.length ≤ 200) :
    Calls Try.prog 16 #[.pointer (some ⟨rb, 0, none⟩), .string key, .int .u64 seq] w fun e w' =>
      e = .returned (.tuple #[.agg #[.string (gk (findM key seq ns)), .int .u64 (gs (findM key seq ns)), .bool (gd (findM key seq ns)), .string (gv (findM key seq ns))], .bool (findM key seq ns).isSome]) ∧ Below w.heap.size w w' := by
  have hrlt := h.lt
  obtain ⟨la, lc, ha, hc, hB, hL, _⟩ := h
  have c0 : w.cell? ⟨rb, 0, none⟩ = some (.slice la ns.length lc) := hB.cell 0
  have hcap := hL.le
  have HL := Lib.hid hL
  have hne : ¬ rb = w.heap.size := by omega
  clear hB hL
  go_enter Try.func16, Try.ntmps16
  go_wp2_with fail
  go_loopg [8] ns.length (fun g i wr => RGetRel key seq ns (w.alloc (.cells #[.string { data := #[] }, .int .u64 0, .bool false, .string { data := #[] }] 34)) g i wr)
  case atStart => exact ⟨0, rfl, by omega, by omega, rfl, rfl⟩
  case round =>
    obtain ⟨n, rfl, hn, rfl, h0, rfl⟩ := hrel
    have H0 := Lib.hid h0
    clear h0
    by_cases hlt : n < ns.length
    · obtain ⟨m, hm⟩ : ∃ m, ns[n]? = some m := ⟨ns[n]'hlt, by simp⟩
      obtain ⟨b, off, rfl, hblt, e0, e1, e2, e3⟩ := HL.out.ent hm
      have Hm := Lib.hid hm
      have hlti : (n : Int) < (ns.length : Int) := by omega
      clear hm
      by_cases hkk : m.k.toList = key.toList
      · have hkb : (m.k.toList == key.toList) = true := by simp [hkk]
        by_cases hss : m.s ≤ seq
        · have Hh := Lib.hid (findM_take_some Hm.out H0.out (by simp [hitB, hkk, hss]))
          clear hkk
          go_wp2_with fail
          refine bodyPost_ret (v := .tuple #[.agg #[.string m.k, .int .u64 m.s, .bool m.d, .string m.v], .bool true]) ?_ rfl ?_
          · simp [results, Try.results16, go_sem]
          · rw [Hh.out]
            refine ⟨rfl, ?_⟩
            repeat' (first | exact (Below.refl _ _) | (refine Below.setCell ?_ (by simp) _) | (refine Below.alloc ?_ (by simp) _))
        · have Hh := Lib.hid (findM_take_none Hm.out H0.out (by simp [hitB]; intro _; omega))
          clear hkk
          go_wp2_with fail
          go_roundg (ns.length - (n + 1))
          case measure => omega
          case rel => exact ⟨n + 1, by go_num, by omega, rfl, Hh.out, rfl⟩
      · have hkb : (m.k.toList == key.toList) = false := by simpa using hkk
        have Hh := Lib.hid (findM_take_none Hm.out H0.out (by simp [hitB, hkk]))
        clear hkk
        go_wp2_with fail
        go_roundg (ns.length - (n + 1))
        case measure => omega
        case rel => exact ⟨n + 1, by go_num, by omega, rfl, Hh.out, rfl⟩
    · have e : findM key seq ns = none := by have := H0.out; rwa [List.take_of_length_le (by omega)] at this
      have He := Lib.hid e
      clear e
      go_wp2_with fail
      refine bodyPost_ret (v := .tuple #[.agg #[.string { data := #[] }, .int .u64 0, .bool false, .string { data := #[] }], .bool false]) ?_ rfl ?_
      · simp [results, Try.results16, go_sem]
      · rw [He.out]
        refine ⟨rfl, ?_⟩
        repeat' (first | exact (Below.refl _ _) | (refine Below.setCell ?_ (by simp) _) | (refine Below.alloc ?_ (by simp) _))

/-! ### Size -/
def RSizeRel (ns : List Nd) (w0 : World) (g : Nat) (c i : Value) (wr : World) : Prop :=
  ∃ n : Nat, i = .int .i64 n ∧ n ≤ ns.length ∧ g = ns.length - n ∧ c = .int .i64 (sizeOf' (ns.take n) : Nat) ∧ ∃ q, wr = w0.drewN q

theorem size_take {ns : List Nd} {n : Nat} {m : Nd} (hm : ns[n]? = some m) : sizeOf' (ns.take (n + 1)) = sizeOf' (ns.take n) + (m.k.size + m.v.size) := by
  have hlt := (List.getElem?_eq_some_iff.1 hm).1
  rw [List.take_succ_eq_append_getElem hlt, (List.getElem?_eq_some_iff.1 hm).2]
  simp [sizeOf']

theorem size_take_le {ns : List Nd} (h : Wf ns) : ∀ n, sizeOf' (ns.take n) ≤ n * 200
  | 0 => by simp [sizeOf']
  | n + 1 => by
    have ih := size_take_le h n
    cases hm : ns[n]? with
    | none =>
      have h1 := List.getElem?_eq_none_iff.1 hm
      rw [List.take_of_length_le (by omega)]
      rw [List.take_of_length_le (by omega)] at ih
      omega
    | some m =>
      obtain ⟨_, h2, h3, _⟩ := may_parts (h.may m (List.mem_of_getElem? hm))
      rw [size_take hm]
      omega

set_option maxHeartbeats 1000000 in
theorem rsize_calls (rb : Nat) (ns : List Nd) (w : World) (h : RTab rb ns w) (hw : Wf ns) (hl : ns.length ≤ 200) :
    Calls Try.prog 19 #[.pointer (some ⟨rb, 0, none⟩)] w fun e w' => e = .returned (.int .i64 (sizeOf' ns)) ∧ ∃ q, w' = w.drewN q := by
  obtain ⟨la, lc, ha, hc, hB, hL, _⟩ := h
  have c0 : w.cell? ⟨rb, 0, none⟩ = some (.slice la ns.length lc) := hB.cell 0
  have hcap := hL.le
  have HL := Lib.hid hL
  have Hw := Lib.hid hw
  clear hB hL hw
  go_enter Try.func19, Try.ntmps19
  go_wp2_with fail
  go_loopg [3, 4] ns.length (fun g c i wr => RSizeRel ns w g c i wr)
  case atStart => exact ⟨0, rfl, by omega, by omega, rfl, 0, rfl⟩
  case round =>
    obtain ⟨n, rfl, hn, rfl, rfl, q, rfl⟩ := hrel
    by_cases hlt : n < ns.length
    · obtain ⟨m, hm⟩ : ∃ m, ns[n]? = some m := ⟨ns[n]'hlt, by simp⟩
      obtain ⟨b, off, rfl, hblt, e0, e1, e2, e3⟩ := HL.out.ent hm
      have Htk := Lib.hid (size_take hm)
      have hcl := size_take_le Hw.out n
      obtain ⟨_, h2, h3, _⟩ := may_parts (Hw.out.may m (List.mem_of_getElem? hm))
      have hlti : (n : Int) < (ns.length : Int) := by omega
      generalize hc' : sizeOf' (ns.take n) = cc at hcl
      have Hc := Lib.hid hc'
      have g1 : IntKind.i64.wrap ((m.k.size : Int) + (m.v.size : Int)) = (m.k.size : Int) + (m.v.size : Int) := IntWalk.i64_in _ (by omega)
      have g2 : IntKind.i64.wrap ((cc : Int) + ((m.k.size : Int) + (m.v.size : Int))) = (cc : Int) + ((m.k.size : Int) + (m.v.size : Int)) := IntWalk.i64_in _ (by omega)
      clear hm hc'
      go_wp2_with fail
      go_quiet (fail)
      go_wp2_with fail
      go_roundg (ns.length - (n + 1))
      case measure => omega
      case rel => exact ⟨n + 1, by go_num, by omega, rfl, by rw [Htk.out, Hc.out]; go_num, _, rfl⟩
    · have e : sizeOf' (ns.take n) = sizeOf' ns := by rw [List.take_of_length_le (by omega)]
      rw [e]
      clear e
      go_wp2_with fail
      go_ret
      exact ⟨rfl, q, rfl⟩

end Go.Proofs.Ytbocdopjikkomaa
