/- symMerge behind its search. -/
import Derived.Test.YtghmjconljdapaaS5
namespace Go.Proofs.Ytghmjconljdapaa
open Go.RowKit

/-- Behind the turn, the first half in order. -/
def Halves (xs : List Tx) (a mid e b : Nat) (d : Nat → Int) : Prop :=
  Upto (kd xs d) a mid ∧ Upto (kd xs d) mid e ∧ Upto (kd xs d) e b ∧ Below2 (kd xs d) a mid b

/-- Behind the turn, the first half not yet in order. -/
def Quarters (xs : List Tx) (a s mid e b : Nat) (d : Nat → Int) : Prop :=
  Upto (kd xs d) a s ∧ Upto (kd xs d) s mid ∧ Upto (kd xs d) mid e ∧ Upto (kd xs d) e b ∧ Below2 (kd xs d) a mid b

/-- What a call of symMerge is to do, for rows of at most N numbers. -/
def SymOk (w0 : World) (n lb : Nat) (xs : List Tx) (cap db m N : Nat) : Prop :=
  ∀ (a q b : Nat) (d : Nat → Int) (w : World), b - a ≤ N → In w0 n db m d w → a < q → q < b → b ≤ m → Upto (kd xs d) a q → Upto (kd xs d) q b →
    Calls Try.prog 26 #[.slice (some ⟨db, 0, none⟩) m cap, .int .i64 a, .int .i64 q, .int .i64 b, .func (.func 20) #[] #[.pointer (some ⟨lb, 0, none⟩)]] w (Sorted w0 n db m a b xs d)

/-- What stands behind the first k statements. -/
def right : Nat → Code → Code
  | k + 1, .seq _ y => right k y
  | _, x => x

noncomputable def symBody : Code := Try.f26.body.getD .skip

/-- Both halves in order. -/
theorem halves_done {w0 : World} {n db m a mid e b : Nat} {xs : List Tx} {d d1 : Nat → Int} {w : World} (hq : Halves xs a mid e b d1) (hmv : Moved a b m d d1) (ham : a ≤ mid) (hmb : mid ≤ b)
    (h : Sorting w0 n db m mid b d1 (fun d2 => Upto (kd xs d2) mid b) w) : Sorted w0 n db m a b xs d (.returned (.tuple #[])) w := by
  obtain ⟨d2, h1, h2, h3⟩ := h
  exact ⟨rfl, d2, hmv.trans (h1.wide ham (Nat.le_refl _)), h2, (hq.1.out h1 (.inl (Nat.le_refl _))).join h3 (hq.2.2.2.right h1)⟩

theorem quarters_step {w0 : World} {n db m a s mid e b : Nat} {xs : List Tx} {d d1 : Nat → Int} {w : World} (hq : Quarters xs a s mid e b d1) (hmv : Moved a b m d d1) (hme : mid ≤ e) (hmb : mid ≤ b)
    (h : Sorting w0 n db m a mid d1 (fun d2 => Upto (kd xs d2) a mid) w) : ∃ d2, Moved a b m d d2 ∧ In w0 n db m d2 w ∧ Halves xs a mid e b d2 := by
  obtain ⟨d2, h1, h2, h3⟩ := h
  exact ⟨d2, hmv.trans (h1.wide (Nat.le_refl _) hmb), h2, h3, hq.2.2.1.out h1 (.inr (Nat.le_refl _)), hq.2.2.2.1.out h1 (.inr hme), hq.2.2.2.2.left h1⟩

theorem quarters_first {xs : List Tx} {a s mid e b : Nat} {d : Nat → Int} (h : Quarters xs a s mid e b d) (h1 : a ≤ s) (h2 : s ≤ mid) (hb : ¬ (a < s ∧ s < mid)) : Upto (kd xs d) a mid := by
  by_cases e1 : s = a
  · have := h.2.1; rwa [e1] at this
  · have := h.1; rwa [show s = mid by omega] at this

def AfterTurn (w0 : World) (n db m a s mid e b : Nat) (xs : List Tx) (d : Nat → Int) (w : World) : Prop :=
  ∃ d2, Moved a b m d d2 ∧ In w0 n db m d2 w ∧ Quarters xs a s mid e b d2

theorem turn_step {w0 : World} {n db m a s q mid e b : Nat} {xs : List Tx} {d d1 : Nat → Int} {w : World} (hq : ∀ d2, Turned s q e d1 d2 → Quarters xs a s mid e b d2) (hmv : Moved a b m d d1) (has : a ≤ s) (heb : e ≤ b)
    (h : Sorting w0 n db m s e d1 (fun d2 => Turned s q e d1 d2) w) : AfterTurn w0 n db m a s mid e b xs d w := by
  obtain ⟨d2, h1, h2, h3⟩ := h
  exact ⟨d2, hmv.trans (h1.wide has heb), h2, hq d2 h3⟩

def AfterFirst (w0 : World) (n db m a mid e b : Nat) (xs : List Tx) (d : Nat → Int) (w : World) : Prop :=
  ∃ d2, Moved a b m d d2 ∧ In w0 n db m d2 w ∧ Halves xs a mid e b d2

set_option maxRecDepth 1000000 in
set_option maxHeartbeats 8000000 in
theorem tail43 {w0 : World} {ao : Option Addr} {n c lb : Nat} {xs : List Tx} (X : Ctx w0 ao n c lb xs) (cap db m N : Nat) (hm : m ≤ 100) (ih : SymOk w0 n lb xs cap db m N)
    (a q b s mid e : Nat) (d d1 : Nat → Int) (w : World) (has : a ≤ s) (hsm : s ≤ mid) (hme : mid ≤ e) (heb : e ≤ b) (ham : a < mid) (hmb : mid < b) (hN : b - a ≤ N + 1) (hbm : b ≤ m) (hmv : Moved a b m d d1) (hin : In w0 n db m d1 w)
    (u5 u6 u7 u8 u9 u10 u11 u12 u13 u14 u15 u16 u17 u19 u21 u22 u23 u25 u26 u27 u28 u29 u30 u31 u32 u33 u34 u35 u36 u37 u38 u39 u40 u41 u42 u43 u44 u45 u46 u47 u48 u49 u50 u51 u52 u53 u54 u55 u56 u57 u58 u59 u60 u61 u62 u63 u64 u65 u66 u67 u68 u69 u70 u71 u72 u73 u74 u75 u76 u77 u78 u79 u80 u81 u82 u83 u84 u85 u86 u87 u88 u89 u90 u91 u92 u93 u94 u95 u96 u97 u98 u99 u100 u101 u102 u103 u104 u105 u106 u107 u108 u109 u110 u111 u112 u113 u114 u115 u116 u117 u118 u119 u120 u121 u122 u123 u124 u125 u126 u127 u128 u129 u130 u131 u132 u133 u134 u135 u136 u137 u138 u139 u140 u141 u142 u143 u144 u145 u146 u147 u148 u149 u150 u151 u152 u153 u154 u155 u156 u157 u158 u159 u160 u161 u162 u163 u164 u165 u166 u167 u168 u169 u170 u171 u172 u173 u174 u175 u176 u177 u178 u179 u180 u181 u182 u183 u184 u185 u186 u187 u188 u189 u190 u191 u192 u193 u194 u195 u196 u197 u198 u199 u200 u201 u202 u203 u204 u205 u206 u207 u208 u209 u210 u211 u212 u213 u214 u215 u216 u217 u218 u219 : Value)
    (hq : Halves xs a mid e b d1) :
    Code.wp Try.prog (right 11 symBody) (bodyPost Try.prog Try.f26 (Sorted w0 n db m a b xs d)) ⟨#[.slice (some ⟨db, 0, none⟩) m cap, .int .i64 a, .int .i64 q, .int .i64 b, .func (.func 20) #[] #[.pointer (some ⟨lb, 0, none⟩)], u5, u6, u7, u8, u9, u10, u11, u12, u13, u14, u15, u16, u17, .int .i64 mid, u19, .int .i64 s, u21, u22, u23, .int .i64 e, u25, u26, u27, u28, u29, u30, u31, u32, u33, u34, u35, u36, u37, u38, u39, u40, u41, u42, u43, u44, u45, u46, u47, u48, u49, u50, u51, u52, u53, u54, u55, u56, u57, u58, u59, u60, u61, u62, u63, u64, u65, u66, u67, u68, u69, u70, u71, u72, u73, u74, u75, u76, u77, u78, u79, u80, u81, u82, u83, u84, u85, u86, u87, u88, u89, u90, u91, u92, u93, u94, u95, u96, u97, u98, u99, u100, u101, u102, u103, u104, u105, u106, u107, u108, u109, u110, u111, u112, u113, u114, u115, u116, u117, u118, u119, u120, u121, u122, u123, u124, u125, u126, u127, u128, u129, u130, u131, u132, u133, u134, u135, u136, u137, u138, u139, u140, u141, u142, u143, u144, u145, u146, u147, u148, u149, u150, u151, u152, u153, u154, u155, u156, u157, u158, u159, u160, u161, u162, u163, u164, u165, u166, u167, u168, u169, u170, u171, u172, u173, u174, u175, u176, u177, u178, u179, u180, u181, u182, u183, u184, u185, u186, u187, u188, u189, u190, u191, u192, u193, u194, u195, u196, u197, u198, u199, u200, u201, u202, u203, u204, u205, u206, u207, u208, u209, u210, u211, u212, u213, u214, u215, u216, u217, u218, u219], []⟩ w := by
  have Hin := Lib.hid hin
  have Hq := Lib.hid hq
  have Hmv := Lib.hid hmv
  have Hih := Lib.hid ih
  clear hin hq hmv ih X
  conv => arg 2; whnf
  by_cases h1 : mid < e
  · by_cases h2 : e < b
    · have h1i : (mid : Int) < (e : Int) := by omega
      have h2i : (e : Int) < (b : Int) := by omega
      go_wp2_with fail
      refine (Hih.out mid e b d1 _ (by omega) Hin.out h1 h2 hbm Hq.out.2.1 Hq.out.2.2.1).mono ?_
      rintro ee w2 ⟨rfl, hS⟩
      have HF := Lib.hid (halves_done Hq.out Hmv.out (by omega) (by omega) hS)
      clear hS
      go_wp2_with fail
      first | go_end0 | refine bodyPost_ret (results_none rfl _ _ _) rfl ?_
      exact HF.out
    · have h1i : (mid : Int) < (e : Int) := by omega
      have h2i : ¬ (e : Int) < (b : Int) := by omega
      have HF := Lib.hid (halves_done Hq.out Hmv.out (by omega) (by omega) ⟨d1, Moved.refl _ _ _ _, Hin.out, by have := Hq.out.2.1; rwa [show e = b by omega] at this⟩)
      go_wp2_with fail
      first | go_end0 | refine bodyPost_ret (results_none rfl _ _ _) rfl ?_
      exact HF.out
  · have h1i : ¬ (mid : Int) < (e : Int) := by omega
    have HF := Lib.hid (halves_done Hq.out Hmv.out (by omega) (by omega) ⟨d1, Moved.refl _ _ _ _, Hin.out, by have := Hq.out.2.2.1; rwa [show e = mid by omega] at this⟩)
    go_wp2_with fail
    first | go_end0 | refine bodyPost_ret (results_none rfl _ _ _) rfl ?_
    exact HF.out

set_option maxRecDepth 1000000 in
set_option maxHeartbeats 8000000 in
theorem tail41 {w0 : World} {ao : Option Addr} {n c lb : Nat} {xs : List Tx} (X : Ctx w0 ao n c lb xs) (cap db m N : Nat) (hm : m ≤ 100) (ih : SymOk w0 n lb xs cap db m N)
    (a q b s mid e : Nat) (d d1 : Nat → Int) (w : World) (has : a ≤ s) (hsm : s ≤ mid) (hme : mid ≤ e) (heb : e ≤ b) (ham : a < mid) (hmb : mid < b) (hN : b - a ≤ N + 1) (hbm : b ≤ m) (hmv : Moved a b m d d1) (hin : In w0 n db m d1 w)
    (u5 u6 u7 u8 u9 u10 u11 u12 u13 u14 u15 u16 u17 u19 u21 u22 u23 u25 u26 u27 u28 u29 u30 u31 u32 u33 u34 u35 u36 u37 u38 u39 u40 u41 u42 u43 u44 u45 u46 u47 u48 u49 u50 u51 u52 u53 u54 u55 u56 u57 u58 u59 u60 u61 u62 u63 u64 u65 u66 u67 u68 u69 u70 u71 u72 u73 u74 u75 u76 u77 u78 u79 u80 u81 u82 u83 u84 u85 u86 u87 u88 u89 u90 u91 u92 u93 u94 u95 u96 u97 u98 u99 u100 u101 u102 u103 u104 u105 u106 u107 u108 u109 u110 u111 u112 u113 u114 u115 u116 u117 u118 u119 u120 u121 u122 u123 u124 u125 u126 u127 u128 u129 u130 u131 u132 u133 u134 u135 u136 u137 u138 u139 u140 u141 u142 u143 u144 u145 u146 u147 u148 u149 u150 u151 u152 u153 u154 u155 u156 u157 u158 u159 u160 u161 u162 u163 u164 u165 u166 u167 u168 u169 u170 u171 u172 u173 u174 u175 u176 u177 u178 u179 u180 u181 u182 u183 u184 u185 u186 u187 u188 u189 u190 u191 u192 u193 u194 u195 u196 u197 u198 u199 u200 u201 u202 u203 u204 u205 u206 u207 u208 u209 u210 u211 u212 u213 u214 u215 u216 u217 u218 u219 : Value)
    (hq : Quarters xs a s mid e b d1) :
    Code.wp Try.prog (right 10 symBody) (bodyPost Try.prog Try.f26 (Sorted w0 n db m a b xs d)) ⟨#[.slice (some ⟨db, 0, none⟩) m cap, .int .i64 a, .int .i64 q, .int .i64 b, .func (.func 20) #[] #[.pointer (some ⟨lb, 0, none⟩)], u5, u6, u7, u8, u9, u10, u11, u12, u13, u14, u15, u16, u17, .int .i64 mid, u19, .int .i64 s, u21, u22, u23, .int .i64 e, u25, u26, u27, u28, u29, u30, u31, u32, u33, u34, u35, u36, u37, u38, u39, u40, u41, u42, u43, u44, u45, u46, u47, u48, u49, u50, u51, u52, u53, u54, u55, u56, u57, u58, u59, u60, u61, u62, u63, u64, u65, u66, u67, u68, u69, u70, u71, u72, u73, u74, u75, u76, u77, u78, u79, u80, u81, u82, u83, u84, u85, u86, u87, u88, u89, u90, u91, u92, u93, u94, u95, u96, u97, u98, u99, u100, u101, u102, u103, u104, u105, u106, u107, u108, u109, u110, u111, u112, u113, u114, u115, u116, u117, u118, u119, u120, u121, u122, u123, u124, u125, u126, u127, u128, u129, u130, u131, u132, u133, u134, u135, u136, u137, u138, u139, u140, u141, u142, u143, u144, u145, u146, u147, u148, u149, u150, u151, u152, u153, u154, u155, u156, u157, u158, u159, u160, u161, u162, u163, u164, u165, u166, u167, u168, u169, u170, u171, u172, u173, u174, u175, u176, u177, u178, u179, u180, u181, u182, u183, u184, u185, u186, u187, u188, u189, u190, u191, u192, u193, u194, u195, u196, u197, u198, u199, u200, u201, u202, u203, u204, u205, u206, u207, u208, u209, u210, u211, u212, u213, u214, u215, u216, u217, u218, u219], []⟩ w := by
  have Hin := Lib.hid hin
  have Hq := Lib.hid hq
  have Hmv := Lib.hid hmv
  have Hih := Lib.hid ih
  have HX := Lib.hid X
  clear hin hq hmv ih X
  obtain ⟨B, hB⟩ : ∃ B, decide (a < s ∧ s < mid) = B := ⟨_, rfl⟩
  have HB := Lib.hid hB
  clear hB
  conv => arg 2; whnf
  dsimp only
  go_upto_region 41 with fail
  go_cut [199] (fun v wr => v = .bool B ∧ w = wr)
  case first =>
    by_cases h1 : a < s
    · by_cases h2 : s < mid
      · have h1i : (a : Int) < (s : Int) := by omega
        have h2i : (s : Int) < (mid : Int) := by omega
        go_wp2_with fail
        go_meet
        case rel => exact ⟨by rw [← HB.out]; simp [h1, h2], rfl⟩
      · have h1i : (a : Int) < (s : Int) := by omega
        have h2i : ¬ (s : Int) < (mid : Int) := by omega
        go_wp2_with fail
        go_meet
        case rel => exact ⟨by rw [← HB.out]; simp [h2], rfl⟩
    · have h1i : ¬ (a : Int) < (s : Int) := by omega
      go_wp2_with fail
      go_meet
      case rel => exact ⟨by rw [← HB.out]; simp [h1], rfl⟩
  case rest =>
    obtain ⟨rfl, rfl⟩ := hcut
    go_upto_if 199 with fail
    go_cut [24] (fun v wr => v = .int .i64 e ∧ AfterFirst w0 n db m a mid e b xs d wr)
    case first =>
      cases B with
      | true =>
        have hb := of_decide_eq_true HB.out
        go_wp2_with fail
        refine (Hih.out a s mid d1 _ (by omega) Hin.out hb.1 hb.2 (by omega) Hq.out.1 Hq.out.2.1).mono ?_
        rintro ee w2 ⟨rfl, hS⟩
        have HF := Lib.hid (quarters_step Hq.out Hmv.out hme (by omega) hS)
        clear hS
        go_wp2_with fail
        go_meet
        case rel => exact ⟨rfl, HF.out⟩
      | false =>
        have hb := of_decide_eq_false HB.out
        have HF := Lib.hid (quarters_step Hq.out Hmv.out hme (by omega) ⟨d1, Moved.refl _ _ _ _, Hin.out, quarters_first Hq.out has hsm hb⟩)
        go_wp2_with fail
        go_meet
        case rel => exact ⟨rfl, HF.out⟩
    case rest =>
      obtain ⟨rfl, d2, h1, h2, h3⟩ := hcut
      apply_assumption
      exact tail43 HX.out cap db m N hm Hih.out a q b s mid e d d2 wc has hsm hme heb ham hmb hN hbm h1 h2 _ _ _ _ _ _ _ _ _ _ _ _ _ _ _ _ _ _ _ _ _ _ _ _ _ _ _ _ _ _ _ _ _ _ _ _ _ _ _ _ _ _ _ _ _ _ _ _ _ _ _ _ _ _ _ _ _ _ _ _ _ _ _ _ _ _ _ _ _ _ _ _ _ _ _ _ _ _ _ _ _ _ _ _ _ _ _ _ _ _ _ _ _ _ _ _ _ _ _ _ _ _ _ _ _ _ _ _ _ _ _ _ _ _ _ _ _ _ _ _ _ _ _ _ _ _ _ _ _ _ _ _ _ _ _ _ _ _ _ _ _ _ _ _ _ _ _ _ _ _ _ _ _ _ _ _ _ _ _ _ _ _ _ _ _ _ _ _ _ _ _ _ _ _ _ _ _ _ _ _ _ _ _ _ _ _ _ _ _ _ _ _ _ _ _ _ _ _ _ _ _ _ _ _ _ _ _ _ _ _ _ _ h3

set_option maxRecDepth 1000000 in
set_option maxHeartbeats 8000000 in
theorem tail39 {w0 : World} {ao : Option Addr} {n c lb : Nat} {xs : List Tx} (X : Ctx w0 ao n c lb xs) (cap db m N : Nat) (hm : m ≤ 100) (ih : SymOk w0 n lb xs cap db m N)
    (a q b s mid e : Nat) (d d1 : Nat → Int) (w : World) (has : a ≤ s) (hsm : s ≤ mid) (hme : mid ≤ e) (heb : e ≤ b) (ham : a < mid) (hmb : mid < b) (hN : b - a ≤ N + 1) (hbm : b ≤ m) (hmv : Moved a b m d d1) (hin : In w0 n db m d1 w)
    (u5 u6 u7 u8 u9 u10 u11 u12 u13 u14 u15 u16 u17 u19 u21 u22 u23 u25 u26 u27 u28 u29 u30 u31 u32 u33 u34 u35 u36 u37 u38 u39 u40 u41 u42 u43 u44 u45 u46 u47 u48 u49 u50 u51 u52 u53 u54 u55 u56 u57 u58 u59 u60 u61 u62 u63 u64 u65 u66 u67 u68 u69 u70 u71 u72 u73 u74 u75 u76 u77 u78 u79 u80 u81 u82 u83 u84 u85 u86 u87 u88 u89 u90 u91 u92 u93 u94 u95 u96 u97 u98 u99 u100 u101 u102 u103 u104 u105 u106 u107 u108 u109 u110 u111 u112 u113 u114 u115 u116 u117 u118 u119 u120 u121 u122 u123 u124 u125 u126 u127 u128 u129 u130 u131 u132 u133 u134 u135 u136 u137 u138 u139 u140 u141 u142 u143 u144 u145 u146 u147 u148 u149 u150 u151 u152 u153 u154 u155 u156 u157 u158 u159 u160 u161 u162 u163 u164 u165 u166 u167 u168 u169 u170 u171 u172 u173 u174 u175 u176 u177 u178 u179 u180 u181 u182 u183 u184 u185 u186 u187 u188 u189 u190 u191 u192 u193 u194 u195 u196 u197 u198 u199 u200 u201 u202 u203 u204 u205 u206 u207 u208 u209 u210 u211 u212 u213 u214 u215 u216 u217 u218 u219 : Value)
    (hsq : s ≤ q) (hqe : q ≤ e) (hq : ∀ d2, Turned s q e d1 d2 → Quarters xs a s mid e b d2) :
    Code.wp Try.prog (right 9 symBody) (bodyPost Try.prog Try.f26 (Sorted w0 n db m a b xs d)) ⟨#[.slice (some ⟨db, 0, none⟩) m cap, .int .i64 a, .int .i64 q, .int .i64 b, .func (.func 20) #[] #[.pointer (some ⟨lb, 0, none⟩)], u5, u6, u7, u8, u9, u10, u11, u12, u13, u14, u15, u16, u17, .int .i64 mid, u19, .int .i64 s, u21, u22, u23, .int .i64 e, u25, u26, u27, u28, u29, u30, u31, u32, u33, u34, u35, u36, u37, u38, u39, u40, u41, u42, u43, u44, u45, u46, u47, u48, u49, u50, u51, u52, u53, u54, u55, u56, u57, u58, u59, u60, u61, u62, u63, u64, u65, u66, u67, u68, u69, u70, u71, u72, u73, u74, u75, u76, u77, u78, u79, u80, u81, u82, u83, u84, u85, u86, u87, u88, u89, u90, u91, u92, u93, u94, u95, u96, u97, u98, u99, u100, u101, u102, u103, u104, u105, u106, u107, u108, u109, u110, u111, u112, u113, u114, u115, u116, u117, u118, u119, u120, u121, u122, u123, u124, u125, u126, u127, u128, u129, u130, u131, u132, u133, u134, u135, u136, u137, u138, u139, u140, u141, u142, u143, u144, u145, u146, u147, u148, u149, u150, u151, u152, u153, u154, u155, u156, u157, u158, u159, u160, u161, u162, u163, u164, u165, u166, u167, u168, u169, u170, u171, u172, u173, u174, u175, u176, u177, u178, u179, u180, u181, u182, u183, u184, u185, u186, u187, u188, u189, u190, u191, u192, u193, u194, u195, u196, u197, u198, u199, u200, u201, u202, u203, u204, u205, u206, u207, u208, u209, u210, u211, u212, u213, u214, u215, u216, u217, u218, u219], []⟩ w := by
  have Hin := Lib.hid hin
  have Hq := Lib.hid hq
  have Hmv := Lib.hid hmv
  have Hih := Lib.hid ih
  have HX := Lib.hid X
  clear hin hq hmv ih X
  obtain ⟨B, hB⟩ : ∃ B, decide (s < q ∧ q < e) = B := ⟨_, rfl⟩
  have HB := Lib.hid hB
  clear hB
  conv => arg 2; whnf
  dsimp only
  go_upto_region 39 with fail
  go_cut [185] (fun v wr => v = .bool B ∧ w = wr)
  case first =>
    by_cases h1 : s < q
    · by_cases h2 : q < e
      · have h1i : (s : Int) < (q : Int) := by omega
        have h2i : (q : Int) < (e : Int) := by omega
        go_wp2_with fail
        go_meet
        case rel => exact ⟨by rw [← HB.out]; simp [h1, h2], rfl⟩
      · have h1i : (s : Int) < (q : Int) := by omega
        have h2i : ¬ (q : Int) < (e : Int) := by omega
        go_wp2_with fail
        go_meet
        case rel => exact ⟨by rw [← HB.out]; simp [h2], rfl⟩
    · have h1i : ¬ (s : Int) < (q : Int) := by omega
      go_wp2_with fail
      go_meet
      case rel => exact ⟨by rw [← HB.out]; simp [h1], rfl⟩
  case rest =>
    obtain ⟨rfl, rfl⟩ := hcut
    go_upto_if 185 with fail
    go_cut [24] (fun v wr => v = .int .i64 e ∧ AfterTurn w0 n db m a s mid e b xs d wr)
    case first =>
      cases B with
      | true =>
        have hb := of_decide_eq_true HB.out
        go_wp2_with fail
        refine (rotate_calls _ lb rfl cap n db m s q e d1 _ Hin.out hb.1 hb.2 (by omega) hm).mono ?_
        rintro ee w2 ⟨rfl, hS⟩
        have HF := Lib.hid (turn_step Hq.out Hmv.out has heb hS)
        clear hS
        go_wp2_with fail
        go_meet
        case rel => exact ⟨rfl, HF.out⟩
      | false =>
        have hb := of_decide_eq_false HB.out
        have HF := Lib.hid (turn_step Hq.out Hmv.out has heb ⟨d1, Moved.refl _ _ _ _, Hin.out, Turned.same d1 (by omega) hsq hqe⟩)
        go_wp2_with fail
        go_meet
        case rel => exact ⟨rfl, HF.out⟩
    case rest =>
      obtain ⟨rfl, d2, h1, h2, h3⟩ := hcut
      apply_assumption
      exact tail41 HX.out cap db m N hm Hih.out a q b s mid e d d2 wc has hsm hme heb ham hmb hN hbm h1 h2 _ _ _ _ _ _ _ _ _ _ _ _ _ _ _ _ _ _ _ _ _ _ _ _ _ _ _ _ _ _ _ _ _ _ _ _ _ _ _ _ _ _ _ _ _ _ _ _ _ _ _ _ _ _ _ _ _ _ _ _ _ _ _ _ _ _ _ _ _ _ _ _ _ _ _ _ _ _ _ _ _ _ _ _ _ _ _ _ _ _ _ _ _ _ _ _ _ _ _ _ _ _ _ _ _ _ _ _ _ _ _ _ _ _ _ _ _ _ _ _ _ _ _ _ _ _ _ _ _ _ _ _ _ _ _ _ _ _ _ _ _ _ _ _ _ _ _ _ _ _ _ _ _ _ _ _ _ _ _ _ _ _ _ _ _ _ _ _ _ _ _ _ _ _ _ _ _ _ _ _ _ _ _ _ _ _ _ _ _ _ _ _ _ _ _ _ _ _ _ _ _ _ _ _ _ _ _ _ _ _ _ _ h3

end Go.Proofs.Ytghmjconljdapaa
