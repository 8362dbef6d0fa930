/- The walks over the reference's Steps and From. -/
import Derived.Test.YtbocdopjikkomaaX
namespace Go.Proofs.Ytbocdopjikkomaa
open Go.RowKit

/-- Is none of these higher than that? -/
def noneUp (h : Nat) (xs : List Nd) : Bool := xs.all fun x => decide (x.h ≤ h)

theorem noneUp_snoc (h : Nat) (xs : List Nd) (y : Nd) : noneUp h (xs ++ [y]) = (noneUp h xs && decide (y.h ≤ h)) := by simp [noneUp]

theorem noneUp_iff (h : Nat) (xs : List Nd) : noneUp h xs = true ↔ ∀ x ∈ xs, x.h ≤ h := by simp [noneUp]

/-- The nodes between. -/
def midOf (pre : List Nd) (i j : Nat) : List Nd := (pre.take j).drop i

theorem midOf_self (pre : List Nd) (i : Nat) : midOf pre i i = [] := by
  unfold midOf
  rw [List.drop_eq_nil_iff, List.length_take]
  omega

theorem midOf_snoc {pre : List Nd} {i j : Nat} {y : Nd} (hy : pre[j]? = some y) (h : i ≤ j) : midOf pre i (j + 1) = midOf pre i j ++ [y] := by
  have hlt := (List.getElem?_eq_some_iff.1 hy).1
  unfold midOf
  rw [List.take_succ_eq_append_getElem hlt, (List.getElem?_eq_some_iff.1 hy).2, List.drop_append_of_le_length (by rw [List.length_take]; omega)]

theorem midOf_all (pre : List Nd) (i : Nat) : midOf pre i pre.length = pre.drop i := by
  unfold midOf
  rw [List.take_length]

theorem visL_drop {pre : List Nd} {i : Nat} {m : Nd} (hm : pre[i]? = some m) (h0 : 0 < m.h) :
    visL 0 (pre.drop i) = (if noneUp m.h (midOf pre (i + 1) pre.length) = true then 1 else 0) + visL 0 (pre.drop (i + 1)) := by
  have hlt := (List.getElem?_eq_some_iff.1 hm).1
  rw [List.drop_eq_getElem_cons hlt, (List.getElem?_eq_some_iff.1 hm).2, visL, midOf_all]
  by_cases hc : noneUp m.h (pre.drop (i + 1)) = true
  · rw [if_pos hc, if_pos ⟨h0, (noneUp_iff _ _).1 hc⟩]
  · rw [if_neg hc, if_neg (fun h => hc ((noneUp_iff _ _).2 h.2))]

def RStepRel (pre : List Nd) (w0 : World) (g : Nat) (c i : Value) (wr : World) : Prop :=
  ∃ n q : Nat, i = .int .i64 n ∧ n ≤ pre.length ∧ g = pre.length - n ∧ c = .int .i64 q ∧ q ≤ n ∧ q + visL 0 (pre.drop n) = visL 0 pre ∧ ∃ d, wr = w0.drewN d

def RStepIn (pre : List Nd) (w0 : World) (n h : Nat) (g : Nat) (p j : Value) (wr : World) : Prop :=
  ∃ t : Nat, j = .int .i64 t ∧ n + 1 ≤ t ∧ t ≤ pre.length ∧ g = pre.length - t ∧ p = .bool (noneUp h (midOf pre (n + 1) t)) ∧ ∃ d, wr = w0.drewN d

theorem pre_at {key : ByteArray} {seq : Int} {ns : List Nd} {i : Nat} {m : Nd} (hm : (preOf key seq ns)[i]? = some m) : ns[i]? = some m := by
  have hpp := pre_post key seq ns
  conv => lhs; rw [← hpp]
  rw [List.getElem?_append_left (List.getElem?_eq_some_iff.1 hm).1]
  exact hm

set_option maxHeartbeats 2000000 in
theorem rsteps_calls (rb : Nat) (ns : List Nd) (key : ByteArray) (seq : Int) (w : World) (h : RTab rb ns w) (hw : Wf ns) (hl : ns.length ≤ 200) :
    Calls Try.prog 21 #[.pointer (some ⟨rb, 0, none⟩), .string key, .int .u64 seq] w fun e w' => e = .returned (.int .i64 (visL 0 (preOf key seq ns))) ∧ ∃ q, w' = w.drewN q := by
  have Hpre := Lib.hid (aheads_pre hw key seq)
  have Hlow := Lib.hid (fun n hn => (hw.low n (mem_pre (key := key) (seq := seq) hn)).1)
  have hpl := pre_le key seq ns
  have Hat := Lib.hid (fun (i : Nat) (m : Nd) => pre_at (key := key) (seq := seq) (ns := ns) (i := i) (m := m))
  have H := Lib.hid h
  obtain ⟨la, lc, ha, hc, hB, _, hH, _⟩ := h
  have c1 : w.cell? ⟨rb, 1, none⟩ = some (.slice ha ns.length hc) := hB.cell 1
  have hcap := hH.le
  have HH := Lib.hid hH
  clear hB hH hw
  obtain ⟨pre, hp⟩ : ∃ pre, preOf key seq ns = pre := ⟨_, rfl⟩
  rw [hp] at Hpre Hlow hpl Hat ⊢
  clear hp
  go_enter Try.func21, Try.ntmps21
  go_wp2_with fail
  refine (place_calls _ ns _ _ _ H.out hl).mono ?_
  rintro e w1 ⟨rfl, q1, rfl⟩
  rw [Hpre.out]
  go_wp2_with fail
  go_loopg [8, 9] pre.length (fun g c i wr => RStepRel pre w g c i wr)
  case atStart => exact ⟨0, 0, rfl, by omega, by omega, rfl, by omega, by rw [List.drop_zero, Nat.zero_add], _, rfl⟩
  case round =>
    obtain ⟨n, q, rfl, hn, rfl, rfl, hq, hsum, d, rfl⟩ := hrel
    have Hsum := Lib.hid hsum
    clear hsum
    by_cases hlt : n < pre.length
    · obtain ⟨m, hm⟩ : ∃ m, pre[n]? = some m := ⟨pre[n]'hlt, by simp⟩
      have Hv := Lib.hid (visL_drop hm (Hlow.out m (List.mem_of_getElem? hm)))
      obtain ⟨b, off, rfl, hblt, e0⟩ := HH.out.hgt (Hat.out n m hm)
      have hlti : (n : Int) < (pre.length : Int) := by omega
      clear hm
      go_wp2_with fail
      go_loopg [10, 11] (pre.length - (n + 1)) (fun g p j wr => RStepIn pre w n m.h g p j wr)
      case atStart => exact ⟨n + 1, by go_num, by omega, by omega, rfl, by rw [midOf_self]; rfl, _, rfl⟩
      case round =>
        obtain ⟨t, rfl, ht1, ht2, rfl, rfl, d', rfl⟩ := hrel
        by_cases hlt2 : t < pre.length
        · obtain ⟨y, hy⟩ : ∃ y, pre[t]? = some y := ⟨pre[t]'hlt2, by simp⟩
          obtain ⟨b', off', he, _, f0⟩ := HH.out.hgt (Hat.out t y hy)
          simp only [Option.some.injEq, Addr.mk.injEq, and_true] at he
          obtain ⟨rfl, rfl⟩ := he
          have Hsn := Lib.hid (by have := congrArg (noneUp m.h) (midOf_snoc hy ht1); rwa [noneUp_snoc] at this)
          have hlti2 : (t : Int) < (pre.length : Int) := by omega
          clear hy
          by_cases hpas : noneUp m.h (midOf pre (n + 1) t) = true
          · rw [hpas]
            have Hpas := Lib.hid hpas
            clear hpas
            by_cases hup : (y.h : Int) ≤ (m.h : Int)
            · have hd : decide ((y.h : Int) ≤ (m.h : Int)) = true := by simp; omega
              go_wp2_with fail
              go_quiet (fail)
              go_wp2_with fail
              go_roundg (pre.length - (t + 1))
              case measure => omega
              case rel => exact ⟨t + 1, by go_num, by omega, by omega, rfl, by rw [Hsn.out, Hpas.out, decide_eq_true (by omega)]; rfl, _, rfl⟩
            · have hd : decide ((y.h : Int) ≤ (m.h : Int)) = false := by simp; omega
              go_wp2_with fail
              go_quiet (fail)
              go_wp2_with fail
              go_roundg (pre.length - (t + 1))
              case measure => omega
              case rel => exact ⟨t + 1, by go_num, by omega, by omega, rfl, by rw [Hsn.out, Hpas.out, decide_eq_false (by omega)]; rfl, _, rfl⟩
          · have hpas' : noneUp m.h (midOf pre (n + 1) t) = false := by simpa using hpas
            rw [hpas']
            have Hpas := Lib.hid hpas'
            clear hpas hpas'
            go_wp2_with fail
            go_quiet (fail)
            go_wp2_with fail
            go_roundg (pre.length - (t + 1))
            case measure => omega
            case rel => exact ⟨t + 1, by go_num, by omega, by omega, rfl, by rw [Hsn.out, Hpas.out]; rfl, _, rfl⟩
        · have e : t = pre.length := by omega
          subst e
          by_cases hpas : noneUp m.h (midOf pre (n + 1) pre.length) = true
          · rw [hpas]
            have Hv' := Lib.hid (Hv.out.trans (by rw [if_pos hpas]))
            clear hpas
            go_wp2_with fail
            go_roundg (pre.length - (n + 1))
            case measure => omega
            case rel => exact ⟨n + 1, q + 1, by go_num, by omega, by omega, by go_num, by omega, by have := Hsum.out; rw [Hv'.out] at this; omega, _, rfl⟩
          · have hpas' : noneUp m.h (midOf pre (n + 1) pre.length) = false := by simpa using hpas
            rw [hpas']
            have Hv' := Lib.hid (Hv.out.trans (by rw [if_neg hpas]))
            clear hpas hpas'
            go_wp2_with fail
            go_roundg (pre.length - (n + 1))
            case measure => omega
            case rel => exact ⟨n + 1, q, by go_num, by omega, by omega, rfl, by omega, by have := Hsum.out; rw [Hv'.out] at this; omega, _, rfl⟩
    · have e : q = visL 0 pre := by
        have := Hsum.out
        rw [List.drop_eq_nil_of_le (by omega)] at this
        exact this
      have He := Lib.hid e
      clear e
      go_wp2_with fail
      go_ret
      exact ⟨by rw [He.out]; rfl, d, rfl⟩

/-! ### From -/
def RFromRel (w : World) (ns : List Nd) (P : Nat) (n : Int) (g : Nat) (l i : Value) (wr : World) : Prop :=
  ∃ t : Nat, i = .int .i64 t ∧ t ≤ ns.length ∧ g = ns.length - t ∧ ((midOf ns P t).length : Int) ≤ max n 0 ∧ wr.ownsRow w.heap.size 34 4 l (midOf ns P t).length (entsC (midOf ns P t)) ∧ Below w.heap.size w wr

theorem midOf_low {ns : List Nd} {P t : Nat} (h : t ≤ P) : midOf ns P t = [] := by
  unfold midOf
  rw [List.drop_eq_nil_iff, List.length_take]
  omega

theorem midOf_len {ns : List Nd} {P t : Nat} (ht : t ≤ ns.length) : (midOf ns P t).length = t - P := by
  unfold midOf
  rw [List.length_drop, List.length_take]
  omega

theorem midOf_take {ns : List Nd} {P t k : Nat} (ht : t ≤ ns.length) (h : (midOf ns P t).length = k ∨ (t = ns.length ∧ t - P ≤ k)) : midOf ns P t = (ns.drop P).take k := by
  rw [midOf_len ht] at h
  unfold midOf
  rcases h with h | ⟨rfl, h⟩
  · by_cases hP : t ≤ P
    · have hk : k = 0 := by omega
      rw [hk, List.take_zero, List.drop_eq_nil_iff, List.length_take]
      omega
    · rw [List.drop_take, h]
  · rw [List.take_length, List.take_of_length_le (by rw [List.length_drop]; omega)]

set_option maxHeartbeats 1000000 in
theorem rfrom_calls (rb : Nat) (ns : List Nd) (key : ByteArray) (n : Int) (w : World) (h : RTab rb ns w) (hw : Wf ns) (hl : ns.length ≤ 200) :
    Calls Try.prog 26 #[.pointer (some ⟨rb, 0, none⟩), .string key, .int .i64 n] w (FromPost w ((postOf key 18446744073709551615 ns).take n.toNat)) := by
  have Hless := Lib.hid (fun (k : Nat) (m : Nd) (hm : ns[k]? = some m) => less_pre hw key hm)
  have hrlt := h.lt
  rw [post_drop]
  generalize (preOf key 18446744073709551615 ns).length = P at Hless
  obtain ⟨la, lc, ha, hc, hB, hL, _⟩ := h
  have hcap := hL.le
  have HB := Lib.hid hB
  have HL := Lib.hid hL
  clear hB hL hw
  go_enter Try.func26, Try.ntmps26
  go_wp2_with fail
  go_loopg [7, 8] ns.length (fun g l i wr => RFromRel w ns P n g l i wr)
  case atStart =>
    refine ⟨0, rfl, by omega, by omega, by rw [midOf_low (by omega)]; simp; omega, ?_, (Below.refl _ _).alloc (Nat.le_refl _) _⟩
    rw [midOf_low (by omega)]
    exact World.ownsRow_lit w #[] 0 (Nat.le_refl _) (by decide) rfl
  case round =>
    obtain ⟨t, rfl, ht, rfl, hmx, hown, hb⟩ := hrel
    obtain ⟨ao, cap, rfl⟩ := own_slice hown
    have hs := hb.size
    have c0 : wr.cell? ⟨rb, 0, none⟩ = some (.slice la ns.length lc) := (HB.out.below hb hrlt).cell 0
    have Hlen := Lib.hid (midOf_len (P := P) ht)
    by_cases hlt : t < ns.length
    · obtain ⟨m, hm⟩ : ∃ m, ns[t]? = some m := ⟨ns[t]'hlt, by simp⟩
      have Hl := Lib.hid (Hless.out t m hm)
      obtain ⟨b, off, rfl, hblt, q0, q1, q2, q3⟩ := HL.out.ent hm
      obtain ⟨e0, e1, e2, e3⟩ := EntAt.below (m := m) ⟨q0, q1, q2, q3⟩ hb hblt
      have Hm := Lib.hid hm
      have hlti : (t : Int) < (ns.length : Int) := by omega
      have hbr : b < wr.heap.size := by omega
      have hrr : rb < wr.heap.size := by omega
      have hD : (midOf ns P t).length ≤ 200 := by rw [Hlen.out]; omega
      clear hm q0 q1 q2 q3
      by_cases hroom : ((midOf ns P t).length : Int) < n
      · by_cases hP : t < P
        · have hless : Op.bytesLess m.k.toList key.toList = true := by rw [Hl.out, decide_eq_true hP]
          have e1' : midOf ns P t = midOf ns P (t + 1) := by rw [midOf_low (by omega), midOf_low (by omega)]
          have He := Lib.hid e1'
          have Hown := Lib.hid hown
          clear e1' hown
          go_wp2_with fail
          go_roundg (ns.length - (t + 1))
          case measure => omega
          case rel => exact ⟨t + 1, by go_num, by omega, rfl, by rw [← He.out]; omega, by rw [← He.out]; exact Hown.out, hb⟩
        · have hless : Op.bytesLess m.k.toList key.toList = false := by rw [Hl.out, decide_eq_false hP]
          have Hsn := Lib.hid (midOf_snoc Hm.out (by omega : P ≤ t))
          obtain ⟨i0, hi, hz0, hz1, hz2⟩ := info_parts Try.info34
          go_wp2_with (at_builtin; refine wpList_append_own _ rfl _ _ 28 rfl (w.heap.size) 34 i0 _ 4 48 Try.underlying28 hi hz0 hz1 hz2 rfl (by decide) _ _ _ rfl (hown.alloc _) ⟨wr.heap.size, 0, none⟩ 1 1 (entC m) rfl rfl ?c1 (entC_one m) ?c3 ?c4 ?c5 ?_)
          case c1 => exact cells_new wr 34 (entC m)
          case c3 => unfold maxLen; omega
          case c4 => omega
          case c5 => simp; omega
          intro v1 w2 hown1 hg1 _
          have hb2 : Below w.heap.size w w2 := (hb.alloc hs _).grown hg1 (by simp; omega) (fun k hk => (hown.lt k hk).1)
          clear hg1 hown e0 e1 e2 e3 c0 hi hz0 hz1 hz2
          go_wp2_with fail
          go_roundg (ns.length - (t + 1))
          case measure => omega
          case rel => exact ⟨t + 1, by go_num, by omega, rfl, by rw [Hsn.out]; simp; omega, by rw [Hsn.out]; simpa [entsC] using hown1, hb2⟩
      · have e : midOf ns P t = (ns.drop P).take n.toNat := midOf_take ht (.inl (by omega))
        have He := Lib.hid e
        have Hown := Lib.hid hown
        clear e hown
        go_wp2_with fail
        go_ret
        rw [← He.out]
        exact ⟨_, rfl, Hown.out, hb⟩
    · have e : midOf ns P t = (ns.drop P).take n.toNat := midOf_take ht (.inr ⟨by omega, by rw [Hlen.out] at hmx; omega⟩)
      have He := Lib.hid e
      have Hown := Lib.hid hown
      clear e hown
      go_wp2_with fail
      go_ret
      rw [← He.out]
      exact ⟨_, rfl, Hown.out, hb⟩

end Go.Proofs.Ytbocdopjikkomaa
