/- Plain laws of the order: whose write of a key is the last. -/
import Derived.Test.YtghmjconljdapaaW
import Derived.Test.YtghmjconljdapaaU
namespace Go.Proofs.Ytghmjconljdapaa

theorem beq_toList_eq (a b : ByteArray) : (a.toList == b.toList) = decide (a = b) := by rw [← beq_toListBytes, bytes_beq]

/-- A value, and whether there is one. -/
def wStep (key : ByteArray) (p : ByteArray × Bool) (m : Mt) : ByteArray × Bool := if (m.k.toList == key.toList) = true then (m.v, m.c == 1) else p
def txStep (key : ByteArray) (p : ByteArray × Bool) (x : Tx) : ByteArray × Bool := x.ws.foldl (wStep key) p
def atI (l : List Tx) (k : Int) : Tx := (l[k.toNat]?).getD ⟨0, 0, [], []⟩
def osStep (l : List Tx) (key : ByteArray) (p : ByteArray × Bool) (k : Int) : ByteArray × Bool := txStep key p (atI l k)
def lastO (l : List Tx) (key : ByteArray) (os : List Int) : ByteArray × Bool := os.foldl (osStep l key) ({ data := #[] }, false)

theorem fold_none {key : ByteArray} : ∀ {ws : List Mt} (p : ByteArray × Bool), key ∉ ws.map (·.k) → ws.foldl (wStep key) p = p := by
  intro ws
  induction ws with
  | nil => intro p _; rfl
  | cons a ws ih =>
    intro p h
    rw [List.map_cons, List.mem_cons, not_or] at h
    rw [List.foldl_cons]
    have : wStep key p a = p := by
      unfold wStep
      rw [beq_toList_eq, if_neg (by simp; exact fun e => h.1 e.symm)]
    rw [this]
    exact ih p h.2

theorem txStep_wrote {key : ByteArray} {x : Tx} (hn : (x.ws.map (·.k)).Nodup) (p : ByteArray × Bool) : txStep key p x = match wroteOf key x.ws with | some m => (m.v, m.c == 1) | none => p := by
  unfold txStep wroteOf
  generalize x.ws = ws at hn
  induction ws generalizing p with
  | nil => rfl
  | cons a ws ih =>
    rw [List.map_cons, List.nodup_cons] at hn
    rw [List.foldl_cons, List.find?_cons]
    by_cases h : (a.k.toList == key.toList) = true
    · rw [h]
      have e : a.k = key := by rw [beq_toList_eq, decide_eq_true_eq] at h; exact h
      have hw : wStep key p a = (a.v, a.c == 1) := by unfold wStep; rw [if_pos h]
      rw [hw, fold_none _ (by rw [← e]; exact hn.1)]
    · have h' : (a.k.toList == key.toList) = false := by simpa using h
      have hw : wStep key p a = p := by unfold wStep; rw [if_neg h]
      rw [h', hw]
      exact ih p hn.2

/-- What the fold over an order gives. -/
theorem lastO_is {l : List Tx} {key : ByteArray} (hk : ∀ k : Int, ((atI l k).ws.map (·.k)).Nodup) : ∀ {os : List Int}, os.Pairwise (fun i j => kap l i ≤ kap l j) →
    (lastO l key os = ({ data := #[] }, false) ∧ ∀ k ∈ os, wroteOf key (atI l k).ws = none) ∨ ∃ k ∈ os, ∃ m, wroteOf key (atI l k).ws = some m ∧ lastO l key os = (m.v, m.c == 1) ∧ ∀ k' ∈ os, wroteOf key (atI l k').ws ≠ none → kap l k' ≤ kap l k := by
  intro os
  have key' : ∀ n, n ≤ os.length → os.Pairwise (fun i j => kap l i ≤ kap l j) →
      (lastO l key (os.take n) = ({ data := #[] }, false) ∧ ∀ k ∈ os.take n, wroteOf key (atI l k).ws = none) ∨ ∃ k ∈ os.take n, ∃ m, wroteOf key (atI l k).ws = some m ∧ lastO l key (os.take n) = (m.v, m.c == 1) ∧ ∀ k' ∈ os.take n, wroteOf key (atI l k').ws ≠ none → kap l k' ≤ kap l k := by
    intro n
    induction n with
    | zero => intro _ _; exact .inl ⟨rfl, by simp⟩
    | succ n ih =>
      intro hn hp
      have ih := ih (by omega) hp
      have hx : os[n]? = some os[n] := by simp
      have hs : os.take (n + 1) = os.take n ++ [os[n]] := take_snoc' hx
      have hl : lastO l key (os.take (n + 1)) = match wroteOf key (atI l os[n]).ws with | some m => (m.v, m.c == 1) | none => lastO l key (os.take n) := by
        unfold lastO
        rw [hs, List.foldl_append]
        exact txStep_wrote (hk _) _
      have hlast : ∀ k' ∈ os.take n, kap l k' ≤ kap l os[n] := by
        intro k' hk'
        rw [List.mem_take_iff_getElem] at hk'
        obtain ⟨i, hi, rfl⟩ := hk'
        exact List.pairwise_iff_getElem.1 hp i n (by omega) (by omega) (by omega)
      rw [hl, hs]
      cases hw : wroteOf key (atI l os[n]).ws with
      | none =>
        rcases ih with ⟨h1, h2⟩ | ⟨k, hk1, m, h1, h2, h3⟩
        · refine .inl ⟨h1, fun k hk => ?_⟩
          rcases List.mem_append.1 hk with hk | hk
          · exact h2 k hk
          · rw [List.mem_singleton.1 hk]; exact hw
        · refine .inr ⟨k, List.mem_append_left _ hk1, m, h1, h2, fun k' hk' hne => ?_⟩
          rcases List.mem_append.1 hk' with hk' | hk'
          · exact h3 k' hk' hne
          · rw [List.mem_singleton.1 hk'] at hne
            exact absurd hw hne
      | some m =>
        refine .inr ⟨os[n], List.mem_append_right _ (List.mem_singleton.2 rfl), m, hw, rfl, fun k' hk' _ => ?_⟩
        rcases List.mem_append.1 hk' with hk' | hk'
        · exact hlast k' hk'
        · rw [List.mem_singleton.1 hk']; exact Int.le_refl _
  intro hp
  have := key' os.length (Nat.le_refl _) hp
  rwa [List.take_length] at this

/-- What the last write of a key is. -/
theorem lastOf_is (l : List Tx) (key : ByteArray) (T : Int) :
    ((lastOf l key T).2 = none ∧ ∀ x ∈ l, 0 < x.t → x.t ≤ T → wroteOf key x.ws = none) ∨ ∃ x ∈ l, ∃ m, wroteOf key x.ws = some m ∧ (lastOf l key T).2 = some m ∧ (lastOf l key T).1 = x.t ∧ 0 < x.t ∧ ∀ y ∈ l, wroteOf key y.ws ≠ none → y.t ≤ T → y.t ≤ x.t := by
  have key' : ∀ n, n ≤ l.length → ((lastOf (l.take n) key T) = (0, none) ∧ ∀ x ∈ l.take n, 0 < x.t → x.t ≤ T → wroteOf key x.ws = none) ∨ ∃ x ∈ l.take n, ∃ m, wroteOf key x.ws = some m ∧ (lastOf (l.take n) key T).2 = some m ∧ (lastOf (l.take n) key T).1 = x.t ∧ 0 < x.t ∧ ∀ y ∈ l.take n, wroteOf key y.ws ≠ none → y.t ≤ T → y.t ≤ x.t := by
    intro n
    induction n with
    | zero => intro _; exact .inl ⟨rfl, by simp⟩
    | succ n ih =>
      intro hn
      have ih := ih (by omega)
      have hx : l[n]? = some l[n] := by simp
      have hs : l.take (n + 1) = l.take n ++ [l[n]] := take_snoc' hx
      have hl := last_snoc hx key T
      rw [hl, hs]
      generalize l[n] = x at *
      cases hw : wroteOf key x.ws with
      | none =>
        have hv : valStep key T (lastOf (l.take n) key T) x = lastOf (l.take n) key T := by unfold valStep; rw [hw]
        rw [hv]
        rcases ih with ⟨h1, h2⟩ | ⟨z, hz, m, h1, h2, h3, h4, h5⟩
        · refine .inl ⟨h1, fun y hy => ?_⟩
          rcases List.mem_append.1 hy with hy | hy
          · exact h2 y hy
          · rw [List.mem_singleton.1 hy]; exact fun _ _ => hw
        · refine .inr ⟨z, List.mem_append_left _ hz, m, h1, h2, h3, h4, fun y hy hne ht => ?_⟩
          rcases List.mem_append.1 hy with hy | hy
          · exact h5 y hy hne ht
          · rw [List.mem_singleton.1 hy] at hne
            exact absurd hw hne
      | some m =>
        have hv : valStep key T (lastOf (l.take n) key T) x = if (lastOf (l.take n) key T).1 < x.t ∧ x.t ≤ T then (x.t, some m) else lastOf (l.take n) key T := by unfold valStep; rw [hw]
        rw [hv]
        have hpos : 0 ≤ (lastOf (l.take n) key T).1 := by
          rcases ih with ⟨h1, _⟩ | ⟨z, _, _, _, _, h3, h4, _⟩
          · rw [h1]; exact Int.le_refl _
          · omega
        by_cases hc : (lastOf (l.take n) key T).1 < x.t ∧ x.t ≤ T
        · rw [if_pos hc]
          refine .inr ⟨x, by simp, m, hw, rfl, rfl, by omega, fun y hy hne ht => ?_⟩
          rcases List.mem_append.1 hy with hy | hy
          · rcases ih with ⟨h1, h2⟩ | ⟨z, hz, m', h1, h2, h3, h4, h5⟩
            · by_cases hy0 : 0 < y.t
              · exact absurd (h2 y hy hy0 ht) hne
              · omega
            · have := h5 y hy hne ht
              omega
          · rw [List.mem_singleton.1 hy]; exact Int.le_refl _
        · rw [if_neg hc]
          rcases ih with ⟨h1, h2⟩ | ⟨z, hz, m', h1, h2, h3, h4, h5⟩
          · refine .inl ⟨h1, fun y hy h0 ht => ?_⟩
            rcases List.mem_append.1 hy with hy | hy
            · exact h2 y hy h0 ht
            · rw [List.mem_singleton.1 hy] at h0 ht
              rw [h1] at hc
              simp only at hc
              omega
          · refine .inr ⟨z, List.mem_append_left _ hz, m', h1, h2, h3, h4, fun y hy hne ht => ?_⟩
            rcases List.mem_append.1 hy with hy | hy
            · exact h5 y hy hne ht
            · rw [List.mem_singleton.1 hy] at ht ⊢
              omega
  have := key' l.length (Nat.le_refl _)
  rw [List.take_length] at this
  rcases this with ⟨h1, h2⟩ | h
  · exact .inl ⟨by rw [h1], h2⟩
  · exact .inr h

theorem comm_mem {l : List Tx} {k : Int} : k ∈ commTo l l.length ↔ 0 ≤ k ∧ k < l.length ∧ 0 < kap l k := by
  unfold commTo
  rw [List.mem_map]
  constructor
  · rintro ⟨i, hi, rfl⟩
    obtain ⟨h1, h2⟩ := List.mem_filter.1 hi
    have := List.mem_range.1 h1
    exact ⟨by omega, by omega, by simpa using h2⟩
  · rintro ⟨h1, h2, h3⟩
    refine ⟨k.toNat, List.mem_filter.2 ⟨List.mem_range.2 (by omega), ?_⟩, by omega⟩
    rw [show ((k.toNat : Nat) : Int) = k by omega]
    simpa using h3

theorem atI_of {l : List Tx} {k : Int} {x : Tx} (h : l[k.toNat]? = some x) : atI l k = x := by unfold atI; rw [h]; rfl

/-- The order's last write of a key is the value behind all. -/
theorem order_law {l : List Tx} (hm : mayL l = true) {os : List Int} (hp : os.Perm (commTo l l.length)) (hs : os.Pairwise (fun i j => kap l i ≤ kap l j)) (key : ByteArray) (T : Int) (hT : ∀ x ∈ l, x.t ≤ T) :
    (lastO l key os).2 = (valueOf l key T).isSome ∧ ∀ v, valueOf l key T = some v → (lastO l key os).1 = v := by
  have hnod : ∀ k : Int, ((atI l k).ws.map (·.k)).Nodup := by
    intro k
    cases hk : l[k.toNat]? with
    | none => unfold atI; rw [hk]; exact List.nodup_nil
    | some x =>
      rw [atI_of hk]
      exact ((wsB_iff x.ws).1 ((mayB_iff x).1 (((mayL_iff l).1 hm).1 x (List.mem_of_getElem? hk))).2.2.2.2).2
  have hget : ∀ k ∈ os, ∃ x, l[k.toNat]? = some x ∧ kap l k = x.t ∧ 0 < x.t := by
    intro k hk
    obtain ⟨h1, h2, h3⟩ := comm_mem.1 (hp.mem_iff.1 hk)
    have hx : l[k.toNat]? = some (l[k.toNat]'(by omega)) := by simp
    exact ⟨_, hx, kap_of hx, by rw [← kap_of hx]; exact h3⟩
  have hin : ∀ x ∈ l, 0 < x.t → ∃ k ∈ os, l[k.toNat]? = some x ∧ kap l k = x.t := by
    intro x hx ht
    obtain ⟨i, hi⟩ := List.mem_iff_getElem?.1 hx
    have hlt := (List.getElem?_eq_some_iff.1 hi).1
    have hi' : l[((i : Int)).toNat]? = some x := by simpa using hi
    have hk : kap l (i : Int) = x.t := kap_of hi'
    exact ⟨i, hp.mem_iff.2 (comm_mem.2 ⟨by omega, by omega, by rw [hk]; exact ht⟩), hi', hk⟩
  have hval : valueOf l key T = match (lastOf l key T).2 with | some m => if m.c = 2 then none else some m.v | none => none := rfl
  rcases lastO_is (key := key) hnod hs with ⟨h1, h2⟩ | ⟨k, hk, m, h1, h2, h3⟩
  · rcases lastOf_is l key T with ⟨h4, h5⟩ | ⟨x, hx, m, h4, h5, h6, h7, h8⟩
    · rw [hval, h4, h1]
      exact ⟨rfl, fun v hv => by simp at hv⟩
    · obtain ⟨k, hk, hkx, _⟩ := hin x hx h7
      have := h2 k hk
      rw [atI_of hkx, h4] at this
      cases this
  · obtain ⟨y, hy, hky, hy0⟩ := hget k hk
    rw [atI_of hy] at h1
    have hyl := List.mem_of_getElem? hy
    rcases lastOf_is l key T with ⟨h4, h5⟩ | ⟨x, hx, m', h4, h5, h6, h7, h8⟩
    · have := h5 y hyl hy0 (hT y hyl)
      rw [h1] at this
      cases this
    · obtain ⟨k', hk', hkx, hkt⟩ := hin x hx h7
      have e1 := h3 k' hk' (by rw [atI_of hkx, h4]; simp)
      have e2 := h8 y hyl (by rw [h1]; simp) (hT y hyl)
      have hkk : k.toNat = k'.toNat := by
        refine Decidable.byContradiction fun hne => ?_
        refine times_apart ((mayL_iff l).1 hm).2 hy hkx hne (commit_mem hy0) (?_ : y.t ∈ timesOf x)
        rw [show y.t = x.t by omega]
        exact commit_mem h7
      have exy : x = y := by
        rw [hkk, hkx] at hy
        exact Option.some.inj hy
      rw [exy, h1] at h4
      cases h4
      have hmc : m.c = 1 ∨ m.c = 2 := by
        have := ((wsB_iff y.ws).1 ((mayB_iff y).1 (((mayL_iff l).1 hm).1 y hyl)).2.2.2.2).1
        refine this m ?_
        unfold wroteOf at h1
        exact List.mem_of_find?_eq_some h1
      rw [hval, h5, h2]
      rcases hmc with hc | hc
      · simp [hc]
      · simp [hc]

end Go.Proofs.Ytghmjconljdapaa
