/- The plain law: texts by category, money, units. -/
import Derived.Test.YtpipbjfcbbdicaaGreatDoorJ14
import Derived.Test.YtpipbjfcbbdicaaGreatDoorJ16
import Derived.Test.YtpipbjfcbbdicaaGreatDoorJ15
import Derived.Sort.Walk0
set_option linter.unusedVariables false
set_option linter.unusedSimpArgs false
set_option maxRecDepth 100000
set_option maxHeartbeats 4000000

namespace Go.Proofs.YtpipbjfcbbdicaaGreatDoor
open Go Go.Abs
attribute [local irreducible] DrawW CallW RetW AC Does CmpW

def lrI (cur : Int) : Nat → Nat → List TTxt → Option (Nat × Nat)
  | z, n, [] => some (z, n)
  | z, n, y :: l => match cpaE y.text with
    | .error _ => none
    | .ok v => if decide (60 < y.text.length) || ((decide (0 < z) && decide (v.N.mi ≠ z)) || (!noopF v && !sdsF v cur 0)) then none else lrI cur v.N.mi (n + if noopF v then 1 else 0) l
def lrS (mag : Int) (z n : Nat) : Int := if 0 < n then 0 else mag - z + 1
def lrL (cur : Int) : Int → Int → List TRow → Bool
  | _, _, [] => true
  | mag, sh, r :: l => if decide (r.mag ≤ mag) || (decide (100 < r.mag) || !orderF r.texts) then false else match lrI cur 0 0 r.texts with
    | none => false
    | some (z, n) => if (decide (n ≠ 0) && decide (n ≠ r.texts.length)) || decide (lrS r.mag z n < sh) then false else lrL cur r.mag (lrS r.mag z n) l
def lrowsF (l : List TRow) (cur : Int) : Bool := if 16 < l.length then false else lrL cur (-1) 0 l
theorem cpaE_mi {s : List UInt8} {v : PatV} (h : cpaE s = .ok v) : v.N.mi ≤ 15 := by
  unfold cpaE at h
  split at h
  · cases h
  split at h
  · cases h
  · simp at h; subst h; omega
theorem cpaE_bad' {s : List UInt8} {e : Int × Int} (h : cpaE s = .error e) : e.1 = 1 ∨ e.1 = 2 ∨ e.1 = 3 := cpaE_bad h
theorem lrows_does (m : Int) (l : List TRow) (cur : Int) (hl : l.length < 50000) (hf : ∀ r ∈ l, r.fits) : Does Tryz.prog (GL m) 44 [rowL l, .int .i64 cur] [] fun ae _ => ae = .ret (.bool (lrowsF l cur)) := by
  have ll : (l.map encR).length = l.length := by simp
  refine Does.bodyA tab Tryz.func44 rfl rfl ?_
  refine AC.step tab ?_
  refine gos ?_
  refine AC.step tab ?_
  refine gos ?_
  rw [ll]
  by_cases h16 : 16 < l.length
  · refine CmpW.T ?_
    refine gos ?_
    refine RetW.plain (by simp) ?_
    simp [lrowsF, h16]
  refine CmpW.N ?_
  refine gos ?_
  have hR : lrowsF l cur = lrL cur (-1) 0 l := by simp [lrowsF, h16]
  refine AC.step tab ?_
  refine gos ?_
  refine AC.step tab ?_
  refine gos ?_
  refine AC.cutA (fun e h => lrowsF l cur = true ∧ e = List.replicate 115 .any ∧ h = []) ?_ ?_
  · refine AC.step tab ?_
    refine gos ?_
    rw [ll]
    refine AC.blk ?_
    refine AC.loopA (fun f e h => ∃ (i : Nat) (mag sh : Int), f + i = l.length + 1 ∧ i ≤ l.length ∧ -1 ≤ mag ∧ 0 ≤ sh ∧ lrowsF l cur = lrL cur mag sh (l.drop i) ∧ e = [rowL l, .int .i64 cur, .any, .any, .any, .int .i64 mag, .int .i64 sh] ++ List.replicate 13 .any ++ [.fsl (l.map encR), .int .i64 l.length, .int .i64 i] ++ List.replicate 92 .any ∧ h = [])
      (l.length + 1) ⟨_, fgts, 0, -1, 0, by omega, by omega, by omega, by omega, hR, rfl, rfl⟩ ?_
    rintro f e h ⟨i, mag, sh, hf2, hi, hmag, hsh, hF, rfl, rfl⟩
    refine AC.step tab ?_
    refine gos ?_
    by_cases hlt : i < l.length
    case neg =>
      refine CmpW.N ?_
      rw [List.drop_of_length_le (by omega)] at hF
      refine gos ?_
      refine AC.step tab ?_
      refine gos ?_
      exact ⟨_, 0, fgts, hF, rfl, rfl⟩
    obtain ⟨r, hx⟩ : ∃ x, l[i]? = some x := ⟨_, List.getElem?_eq_getElem hlt⟩
    rw [drop_cons' hx] at hF
    simp only [lrL] at hF
    obtain ⟨fl, ft⟩ := hf r (List.mem_of_getElem? hx)
    have cl : (r.texts.map encT).length = r.texts.length := by simp
    refine CmpW.T ?_
    refine gos ?_
    refine AC.step tab ?_
    refine gos ?_
    refine AC.seqA ?_
    refine AC.blk ?_
    refine AC.step tab ?_
    refine gos ?_
    refine And.intro (encR_two l) (And.intro (by omega) ⟨encR r, map_get hx, ?_⟩)
    (repeat (first | refine gof ?_ | refine fun (vv : Nat) => ?_))
    refine AC.step tab ?_
    refine gos ?_
    by_cases g1 : r.mag ≤ mag
    · refine CmpW.T ?_
      refine gos ?_
      refine RetW.plain (by simp) ?_
      rw [hF]; simp [g1]
    refine CmpW.N ?_
    refine gos ?_
    by_cases g2 : 100 < r.mag
    · refine CmpW.T ?_
      refine gos ?_
      refine RetW.plain (by simp) ?_
      rw [hF]; simp [g2]
    refine CmpW.N ?_
    refine gos ?_
    refine CallW.pure (order_does r.texts fl) rfl rfl ?_
    cases g3 : orderF r.texts with
    | false =>
      refine gos ?_
      refine RetW.plain (by simp) ?_
      rw [hF]; simp [g3]
    | true =>
    rw [if_neg (by simp [g1, g2, g3])] at hF
    refine gos ?_
    refine AC.step tab ?_
    refine gos ?_
    refine AC.step tab ?_
    refine gos ?_
    refine AC.step tab ?_
    refine gos ?_
    refine AC.cutA (fun e h => ∃ z n : Nat, z ≤ 15 ∧ n ≤ r.texts.length ∧ lrI cur 0 0 r.texts = some (z, n) ∧ e = [rowL l, .int .i64 cur, .any, .any, .any, .int .i64 r.mag, .int .i64 sh, .any, .ptr 0 vv 0 0, .int .i64 z, .int .i64 n] ++ List.replicate 9 .any ++ [.fsl (l.map encR), .int .i64 l.length, .int .i64 i] ++ List.replicate 92 .any ∧ h = [some ⟨vv, 43, 2, [encR r]⟩]) ?_ ?_
    · refine AC.step tab ?_
      refine gos ?_
      rw [cl]
      refine AC.blk ?_
      refine AC.loopA (fun f e h => ∃ (k z n : Nat), f + k = r.texts.length + 1 ∧ k ≤ r.texts.length ∧ z ≤ 15 ∧ n ≤ k ∧ lrI cur 0 0 r.texts = lrI cur z n (r.texts.drop k) ∧
          e = [rowL l, .int .i64 cur, .any, .any, .any, .int .i64 r.mag, .int .i64 sh, .any, .ptr 0 vv 0 0, .int .i64 z, .int .i64 n] ++ List.replicate 9 .any ++ [.fsl (l.map encR), .int .i64 l.length, .int .i64 i] ++ List.replicate 21 .any ++ [.fsl (r.texts.map encT), .int .i64 r.texts.length, .int .i64 k] ++ List.replicate 68 .any ∧ h = [some ⟨vv, 43, 2, [encR r]⟩])
        (r.texts.length + 1) ⟨_, fgts, 0, 0, 0, by omega, by omega, by omega, by omega, rfl, rfl, rfl⟩ ?_
      rintro g e h ⟨k, z, n, hg, hk, hz, hn, hA, rfl, rfl⟩
      refine AC.step tab ?_
      refine gos ?_
      by_cases hk3 : k < r.texts.length
      case neg =>
        refine CmpW.N ?_
        rw [List.drop_of_length_le (by omega)] at hA
        refine gos ?_
        refine AC.step tab ?_
        refine gos ?_
        exact ⟨_, 1, fgts, z, n, hz, by omega, hA, rfl, rfl⟩
      obtain ⟨y, hy⟩ : ∃ x, r.texts[k]? = some x := ⟨_, List.getElem?_eq_getElem (by omega)⟩
      rw [drop_cons' hy] at hA
      simp only [lrI] at hA
      have fy := ft y (List.mem_of_getElem? hy)
      have dP := CParse_does (m := m) y.text fy
      have no : lrI cur 0 0 r.texts = none → lrowsF l cur = false := fun h => by rw [hF, h]
      refine CmpW.T ?_
      refine gos ?_
      refine AC.step tab ?_
      refine gos ?_
      refine AC.seqA ?_
      refine AC.blk ?_
      refine AC.step tab ?_
      refine gos ?_
      refine And.intro (encT_two r.texts) (And.intro (by omega) ⟨encT y, map_get hy, ?_⟩)
      (repeat (first | refine gof ?_ | refine fun (vv : Nat) => ?_))
      refine AC.step tab ?_
      refine gos ?_
      cases hE : cpaE y.text with
      | error x =>
        have hb := cpaE_bad' hE
        rw [hE] at dP hA
        refine CallW.pure dP rfl rfl ?_
        (repeat (first | refine gof ?_ | refine fun (vv : Nat) => ?_))
        refine AC.step tab ?_
        refine gos ?_
        refine CmpW.t (by simp; omega) ?_
        refine gos ?_
        refine RetW.plain (by simp) ?_
        rw [no hA]
      | ok v =>
      have hv := cpaE_small hE
      have hmi := cpaE_mi hE
      have dS := sided_does (G := GL m) v hv cur 0
      rw [hE] at dP hA
      simp only at hA
      unfold cpaV encC at dP
      simp only at dP
      generalize sdsF v cur 0 = SD at dS hA
      generalize noopF v = nv at dP hA
      clear hE hv
      obtain ⟨p, q, p', q', two, N⟩ := v
      simp only at hmi hA
      cases two
      all_goals
        refine CallW.pure dP rfl rfl ?_
        (repeat (first | refine gof ?_ | refine fun (vv : Nat) => ?_))
        refine AC.step tab ?_
        refine gos ?_
        by_cases h60 : 60 < y.text.length
        · refine CmpW.T ?_
          refine gos ?_
          refine RetW.plain (by simp) ?_
          rw [no (by rw [hA]; simp [h60])]
        refine CmpW.N ?_
        refine gos ?_
        by_cases hz0 : 0 < z
        · refine CmpW.T ?_
          refine gos ?_
          by_cases hne : N.mi = z
          case neg =>
            refine CmpW.t (by simp; omega) ?_
            refine gos ?_
            refine RetW.plain (by simp) ?_
            rw [no (by rw [hA]; simp [hz0, hne])]
          refine CmpW.f (by simp; omega) ?_
          have hzz : (decide (0 < z) && decide (N.mi ≠ z)) = false := by simp [hne]
          cases nv with
          | true =>
            rw [hzz, if_neg (by simp [h60])] at hA
            refine gos ?_
            refine AC.go tab ?_
            refine gos ?_
            refine AC.go tab ?_
            refine gos ?_
            exact ⟨g - 1, _, 1, by omega, fgts, k + 1, N.mi, n + 1, by omega, by omega, by omega, by omega, hA, rfl, rfl⟩
          | false =>
            refine gos ?_
            refine CallW.pure dS rfl rfl ?_
            cases SD with
            | false =>
              refine gos ?_
              refine RetW.plain (by simp) ?_
              rw [no (by rw [hA]; simp)]
            | true =>
            rw [hzz, if_neg (by simp [h60])] at hA
            refine gos ?_
            refine AC.go tab ?_
            refine gos ?_
            refine AC.go tab ?_
            refine gos ?_
            exact ⟨g - 1, _, 1, by omega, fgts, k + 1, N.mi, n, by omega, by omega, by omega, by omega, hA, rfl, rfl⟩
        · refine CmpW.N ?_
          have hzz : (decide (0 < z) && decide (N.mi ≠ z)) = false := by simp [hz0]
          cases nv with
          | true =>
            rw [hzz, if_neg (by simp [h60])] at hA
            refine gos ?_
            refine AC.go tab ?_
            refine gos ?_
            refine AC.go tab ?_
            refine gos ?_
            exact ⟨g - 1, _, 1, by omega, fgts, k + 1, N.mi, n + 1, by omega, by omega, by omega, by omega, hA, rfl, rfl⟩
          | false =>
            refine gos ?_
            refine CallW.pure dS rfl rfl ?_
            cases SD with
            | false =>
              refine gos ?_
              refine RetW.plain (by simp) ?_
              rw [no (by rw [hA]; simp)]
            | true =>
            rw [hzz, if_neg (by simp [h60])] at hA
            refine gos ?_
            refine AC.go tab ?_
            refine gos ?_
            refine AC.go tab ?_
            refine gos ?_
            exact ⟨g - 1, _, 1, by omega, fgts, k + 1, N.mi, n, by omega, by omega, by omega, by omega, hA, rfl, rfl⟩
    rintro e h ⟨z, n, hz, hn, hI, rfl, rfl⟩
    rw [hI] at hF
    simp only at hF
    refine AC.step tab ?_
    refine gos ?_
    by_cases n0 : n = 0
    · refine CmpW.f (by simpa using n0) ?_
      refine gos ?_
      have hnn : (decide (n ≠ 0) && decide (n ≠ r.texts.length)) = false := by simp [n0]
      have hS : lrS r.mag z n = r.mag - z + 1 := by simp [lrS, n0]
      rw [hnn, Bool.false_or, hS] at hF
      refine AC.step tab ?_
      refine gos ?_
      refine AC.step tab ?_
      refine gos ?_
      refine CmpW.N ?_
      refine gos ?_
      refine AC.step tab ?_
      refine gos ?_
      by_cases hs : (if 0 < n then (0 : Int) else r.mag - z + 1) < sh
      · refine CmpW.t (by simp at hs ⊢; split at hs <;> omega) ?_
        refine gos ?_
        refine RetW.plain (by simp) ?_
        rw [hF, if_pos (by simp at hs ⊢; split at hs <;> omega)]
      refine CmpW.f (by simp at hs ⊢; split at hs <;> omega) ?_
      rw [if_neg (by simp at hs ⊢; split at hs <;> omega)] at hF
      refine gos ?_
      refine AC.go tab ?_
      refine gos ?_
      refine AC.go tab ?_
      refine gos ?_
      exact ⟨f - 1, _, 0, by omega, fgts, i + 1, _, _, by omega, by omega, by omega, by simp at hs; split at hs <;> omega, hF, rfl, rfl⟩
    · refine CmpW.t (by simpa using n0) ?_
      refine gos ?_
      rw [cl]
      by_cases n1 : n = r.texts.length
      case neg =>
        refine CmpW.t (by simp; omega) ?_
        refine gos ?_
        refine RetW.plain (by simp) ?_
        rw [hF, if_pos (by simp [n0, n1])]
      refine CmpW.f (by simp; omega) ?_
      refine gos ?_
      have hnn : (decide (n ≠ 0) && decide (n ≠ r.texts.length)) = false := by simp [n1]
      have hS : lrS r.mag z n = 0 := by simp [lrS]; omega
      rw [hnn, Bool.false_or, hS] at hF
      refine AC.step tab ?_
      refine gos ?_
      refine AC.step tab ?_
      refine gos ?_
      refine CmpW.T ?_
      refine gos ?_
      refine AC.step tab ?_
      refine gos ?_
      by_cases hs : (if 0 < n then (0 : Int) else r.mag - z + 1) < sh
      · refine CmpW.t (by simp at hs ⊢; split at hs <;> omega) ?_
        refine gos ?_
        refine RetW.plain (by simp) ?_
        rw [hF, if_pos (by simp at hs ⊢; split at hs <;> omega)]
      refine CmpW.f (by simp at hs ⊢; split at hs <;> omega) ?_
      rw [if_neg (by simp at hs ⊢; split at hs <;> omega)] at hF
      refine gos ?_
      refine AC.go tab ?_
      refine gos ?_
      refine AC.go tab ?_
      refine gos ?_
      exact ⟨f - 1, _, 0, by omega, fgts, i + 1, _, _, by omega, by omega, by omega, by simp at hs; split at hs <;> omega, hF, rfl, rfl⟩
  rintro e h ⟨hF, rfl, rfl⟩
  rw [hF]
  refine AC.go tab ?_
  refine gos ?_
  refine RetW.plain (by simp) ?_
  rfl
end Go.Proofs.YtpipbjfcbbdicaaGreatDoor

namespace Go.Proofs.YtpipbjfcbbdicaaGreatDoor
open Go Go.Abs
attribute [local irreducible] DrawW CallW RetW AC Does CmpW

def lpt (t : TTab) : Bool := !(t.dg.list.any fun d => decide (d = t.point ∨ d = t.comma)) && (oneF t.point && (oneF t.comma && decide (t.point ≠ t.comma)))
def signsF (t : TTab) : Int := if setF t.dg.list = false then 1 else if ckSign t = false then 2 else if lpt t = false then 3 else if inF t.minGroup 1 4 = false then 4 else 0
theorem signs_does (m : Int) (t : TTab) (h : t.fits) : Does Tryz.prog (GL m) 42 [.agg (tabC t)] [] fun ae _ => ae = .ret (.int .i64 (signsF t)) := by
  have d0 := ck0_does (m := m) h
  have e1 := h.minus
  have e2 := h.plus
  have e3 := h.percent
  have e4 := h.permille
  have e5 := h.point
  have e6 := h.comma
  refine Does.bodyA tab Tryz.func42 rfl rfl ?_
  refine AC.step tab ?_
  refine gos ?_
  intro v1
  refine gos ?_
  refine AC.step tab ?_
  refine gos ?_
  refine CallW.pure d0 rfl rfl ?_
  cases h0 : setF t.dg.list with
  | false =>
    refine gos ?_
    refine RetW.plain (by simp) ?_
    simp [signsF, h0]
  | true =>
  refine gos ?_
  have hS : signsF t = if ckSign t = false then 2 else if lpt t = false then 3 else if inF t.minGroup 1 4 = false then 4 else 0 := by simp [signsF, h0]
  rw [hS]
  refine AC.step tab ?_
  refine gos ?_
  refine CallW.pure (lname_does m t.minus (by omega)) rfl rfl ?_
  cases n0 : nameF t.minus with
  | false =>
    refine gos ?_
    refine RetW.plain (by simp) ?_
    simp [ckSign, n0]
  | true =>
  refine gos ?_
  refine CallW.pure (lname_does m t.plus (by omega)) rfl rfl ?_
  cases n1 : nameF t.plus with
  | false =>
    refine gos ?_
    refine RetW.plain (by simp) ?_
    simp [ckSign, n1]
  | true =>
  refine gos ?_
  refine CallW.pure (lname_does m t.percent (by omega)) rfl rfl ?_
  cases n2 : nameF t.percent with
  | false =>
    refine gos ?_
    refine RetW.plain (by simp) ?_
    simp [ckSign, n2]
  | true =>
  refine gos ?_
  refine CallW.pure (lname_does m t.permille (by omega)) rfl rfl ?_
  cases n3 : nameF t.permille with
  | false =>
    refine gos ?_
    refine RetW.plain (by simp) ?_
    simp [ckSign, n3]
  | true =>
  refine gos ?_
  rw [if_neg (by simp [ckSign, n0, n1, n2, n3])]
  have hany : ∀ d, d ∈ t.dg.list → (d = t.point ∨ d = t.comma) → lpt t = false := fun d hd hp => by
    unfold lpt
    rw [show (t.dg.list.any fun d => decide (d = t.point ∨ d = t.comma)) = true from List.any_eq_true.2 ⟨d, hd, by simpa using hp⟩]; rfl
  have hds : t.dg.list = [t.dg.d0, t.dg.d1, t.dg.d2, t.dg.d3, t.dg.d4, t.dg.d5, t.dg.d6, t.dg.d7, t.dg.d8, t.dg.d9] := rfl
  refine AC.cutF tab (fun e h => (∀ d, d ∈ t.dg.list → ¬ (d = t.point ∨ d = t.comma)) ∧ e = [.any, .ptr 0 v1 0 0] ++ List.replicate 70 .any ∧ h = [some ⟨v1, 31, 34, [tabC t]⟩]) ?_ ?_
  · refine gos ?_
    refine AC.loopC tab (fun f e h => ∃ i : Nat, f + i = 11 ∧ i ≤ 10 ∧ (∀ (j : Nat) d, j < i → t.dg.list[j]? = some d → ¬ (d = t.point ∨ d = t.comma)) ∧
      e = [.any, .ptr 0 v1 0 0] ++ List.replicate 30 .any ++ [.agg t.dg.cells, .int .i64 i] ++ List.replicate 38 .any ∧ h = [some ⟨v1, 31, 34, [tabC t]⟩]) 11 ⟨_, fgts, 0, by omega, by omega, (fun j d hj => by omega), rfl, rfl⟩ ?_
    rintro f e h ⟨i, hf, hi, hA, rfl, rfl⟩
    refine gos ?_
    by_cases h10 : i < 10
    case neg =>
      refine CmpW.N ?_
      refine gos ?_
      refine ⟨_, 1, fgts, fun d hd => ?_, rfl, rfl⟩
      obtain ⟨j, hj, he⟩ := List.getElem_of_mem hd
      have hj2 : j < 10 := hj
      exact hA j d (by omega) (by rw [List.getElem?_eq_getElem hj, he])
    obtain ⟨d, hd⟩ : ∃ d, t.dg.list[i]? = some d := ⟨_, List.getElem?_eq_getElem (by rw [hds]; exact h10)⟩
    refine CmpW.T ?_
    refine gos ?_
    refine And.intro (And.intro (by omega) (by omega)) (idx_str (ds := t.dg.list) hd ?_)
    refine gos ?_
    by_cases hp : d = t.point
    · refine CmpW.t (by simpa using hp) ?_
      refine gos ?_
      refine RetW.plain (by simp) ?_
      rw [hany d (List.mem_of_getElem? hd) (.inl hp)]; rfl
    refine CmpW.f (by simpa using hp) ?_
    refine gos ?_
    by_cases hc : d = t.comma
    · refine CmpW.t (by simpa using hc) ?_
      refine gos ?_
      refine RetW.plain (by simp) ?_
      rw [hany d (List.mem_of_getElem? hd) (.inr hc)]; rfl
    refine CmpW.f (by simpa using hc) ?_
    refine gos ?_
    refine ⟨f - 1, _, 1, by omega, fgts, i + 1, by omega, by omega, fun j d2 hj hd2 => ?_, rfl, rfl⟩
    by_cases hji : j = i
    · subst hji
      rw [hd] at hd2
      cases hd2
      exact fun h => h.elim hp hc
    · exact hA j d2 (by omega) hd2
  rintro e h ⟨hA, rfl, rfl⟩
  have hl : lpt t = (oneF t.point && (oneF t.comma && decide (t.point ≠ t.comma))) := by
    unfold lpt
    rw [show (t.dg.list.any fun d => decide (d = t.point ∨ d = t.comma)) = false from List.any_eq_false.2 fun d hd => by simpa using hA d hd]; rfl
  refine AC.step tab ?_
  refine gos ?_
  refine CallW.pure (GOne_does m t.point (by omega)) rfl rfl ?_
  cases o1 : oneF t.point with
  | false =>
    refine gos ?_
    refine RetW.plain (by simp) ?_
    rw [hl, o1]; rfl
  | true =>
  refine gos ?_
  refine CallW.pure (GOne_does m t.comma (by omega)) rfl rfl ?_
  cases o2 : oneF t.comma with
  | false =>
    refine gos ?_
    refine RetW.plain (by simp) ?_
    rw [hl, o2]; simp
  | true =>
  refine gos ?_
  by_cases o3 : t.point = t.comma
  · refine CmpW.t (by simpa using o3) ?_
    refine gos ?_
    refine RetW.plain (by simp) ?_
    rw [hl]; simp [o3]
  refine CmpW.f (by simpa using o3) ?_
  rw [if_neg (by rw [hl]; simp [o1, o2, o3])]
  refine gos ?_
  refine AC.step tab ?_
  refine gos ?_
  by_cases g1 : t.minGroup < 1
  · refine CmpW.T ?_
    refine gos ?_
    refine RetW.plain (by simp) ?_
    rw [if_pos (by simp [inF]; omega)]
  refine CmpW.N ?_
  refine gos ?_
  by_cases g2 : 4 < t.minGroup
  · refine CmpW.T ?_
    refine gos ?_
    refine RetW.plain (by simp) ?_
    rw [if_pos (by simp [inF]; omega)]
  refine CmpW.N ?_
  rw [if_neg (by simp [inF]; omega)]
  refine gos ?_
  refine AC.go tab ?_
  refine gos ?_
  refine RetW.plain (by simp) ?_
  rfl
end Go.Proofs.YtpipbjfcbbdicaaGreatDoor

namespace Go.Proofs.YtpipbjfcbbdicaaGreatDoor
open Go Go.Abs
attribute [local irreducible] DrawW CallW RetW AC Does CmpW

def patsF (t : TTab) : Int := if ckPat t = false then 5 else if ckRules t = false then 6 else 0
def patN (t : TTab) : Nat → List UInt8
  | 0 => t.decimal
  | 1 => t.per
  | 2 => t.money
  | _ => t.account
def perN (i : Nat) : Int := if i = 1 then 1 else 0
def patP (t : TTab) (i : Nat) : Bool := shapF (patN t i) ((i / 2 : Nat) : Int) (perN i)
theorem ckPat_all (t : TTab) : ckPat t = allB (patP t) 4 := by
  simp [ckPat, allB, patP, patN, perN, List.range, List.range.loop]
theorem patEs {t : TTab} {i : Nat} (h : i < 4) : ([[AV.str t.decimal], [.str t.per], [.str t.money], [.str t.account]] : List (List AV))[i]? = some [.str (patN t i)] := by
  match i, h with
  | 0, _ => rfl
  | 1, _ => rfl
  | 2, _ => rfl
  | 3, _ => rfl
theorem perEs {i : Nat} (h : i < 4) : ([[AV.int .i64 0], [.int .i64 1], [.int .i64 0], [.int .i64 0]] : List (List AV))[i]? = some [.int .i64 (perN i)] := by
  match i, h with
  | 0, _ => rfl
  | 1, _ => rfl
  | 2, _ => rfl
  | 3, _ => rfl
theorem patterns_does (m : Int) (t : TTab) (h : t.fits) : Does Tryz.prog (GL m) 43 [.agg (tabC t)] [] fun ae _ => ae = .ret (.int .i64 (patsF t)) := by
  have hlen : ∀ i, (patN t i).length < 50000 := fun i => by
    unfold patN; split
    · exact h.decimal
    · exact h.per
    · exact h.money
    · exact h.account
  refine Does.bodyA tab Tryz.func43 rfl rfl ?_
  refine AC.step tab ?_
  refine gos ?_
  intro v1
  refine gos ?_
  refine AC.cutA (fun e h => ckPat t = true ∧ e = [.any, .ptr 0 v1 0 0] ++ List.replicate 53 .any ∧ h = [some ⟨v1, 31, 34, [tabC t]⟩]) ?_ ?_
  · refine AC.step tab ?_
    (repeat (first | refine gof ?_ | refine fun (vv : Nat) => ?_))
    revert vv
    intro vr
    refine AC.blk ?_
    refine AC.loopA (fun f e h => ∃ (i : Nat), f + i = 5 ∧ i ≤ 4 ∧ (∀ j, j < i → patP t j = true) ∧ e = [.any, .ptr 0 v1 0 0] ++ List.replicate 17 .any ++ [.sl 1 vr, .int .i64 4, .int .i64 i] ++ List.replicate 33 .any ∧
        h = [some ⟨v1, 31, 34, [tabC t]⟩, some ⟨vr, 9, 1, [[.str t.decimal], [.str t.per], [.str t.money], [.str t.account]]⟩])
      5 ⟨_, fgts, 0, by omega, by omega, (fun j hj => by omega), rfl, rfl⟩ ?_
    rintro f e h2 ⟨i, hf, hi, hA, rfl, rfl⟩
    refine AC.step tab ?_
    refine gos ?_
    by_cases hlt : i < 4
    case neg =>
      refine CmpW.N ?_
      refine gos ?_
      refine AC.step tab ?_
      refine gos ?_
      exact ⟨_, 1, fgts, by rw [ckPat_all]; exact allB_t fun j hj => hA j (by omega), rfl, rfl⟩
    refine CmpW.T ?_
    refine gos ?_
    refine AC.step tab ?_
    refine gos ?_
    refine AC.seqA ?_
    refine AC.blk ?_
    refine AC.step tab ?_
    refine gos ?_
    refine And.intro (And.intro (by omega) (by show (i : Int) < 4; omega)) ?_
    refine gos ?_
    refine ⟨[.str (patN t i)], patEs hlt, ?_⟩
    refine gos ?_
    refine AC.step tab ?_
    refine gos ?_
    have hP := Parse_does (m := m) (patN t i) (by have := hlen i; omega)
    rw [parF_eq] at hP
    have hS : patP t i = match parE (patN t i) with
      | .ok v => sdsF v ((i / 2 : Nat) : Int) (perN i)
      | .error _ => false := rfl
    have no : patP t i = false → patsF t = 5 := fun h => by
      have : ckPat t = false := by rw [ckPat_all]; exact allB_f hlt h
      simp [patsF, this]
    have q2 : (i : Int).tdiv 2 = ((i / 2 : Nat) : Int) := rfl
    cases hE : parE (patN t i) with
    | error x =>
      obtain ⟨c, a⟩ := x
      have hc := parE_bad hE
      rw [hE] at hP hS
      refine CallW.pure hP rfl rfl ?_
      (repeat (first | refine gof ?_ | refine fun (vv : Nat) => ?_))
      refine AC.step tab ?_
      refine gos ?_
      refine DrawW.P (.take 0 (.take 1 (.take 2 (.take 4 (.take 5 (.take 7 (.fork (.cons 3 (.take 6 (.take 8 (.take 9 (.take 10 (.take 11 (.take 12 .done)))))) (.cons 6 (.take 3 (.take 8 (.take 9 (.take 10 (.take 11 (.take 12 .done)))))) .nil))))))))) ?_
      refine gos ?_
      refine CmpW.t (by simp; omega) ?_
      refine gos ?_
      refine And.intro ?_ (And.intro ?_ trivial)
      all_goals
        refine gos ?_
        refine AC.go tab ?_
        refine gos ?_
        refine RetW.plain (by simp) ?_
        rw [no hS]
    | ok v =>
    have hv := parE_small hE
    have dS := sided_does (G := GL m) v hv ((i / 2 : Nat) : Int) (perN i)
    rw [hE] at hP hS
    simp only at hS
    rw [← hS] at dS
    clear hE hv hS
    obtain ⟨p, q, p', q', two, N⟩ := v
    obtain ⟨PC, hPC⟩ : ∃ PC, PC = patCells (affV ⟨p, q, p', q', two, N⟩) two N := ⟨_, rfl⟩
    cases two
    all_goals
      refine CallW.pure hP rfl rfl ?_
      (repeat (first | refine gof ?_ | refine fun (vv : Nat) => ?_))
      refine AC.cutF tab (fun e h => e = [.any, .ptr 0 v1 0 0] ++ List.replicate 17 .any ++ [.sl 1 vr, .int .i64 4, .int .i64 i] ++ List.replicate 22 .any ++ [.bool (!patP t i)] ++ List.replicate 10 .any ∧
        h = [some ⟨v1, 31, 34, [tabC t]⟩, some ⟨vr, 9, 1, [[.str t.decimal], [.str t.per], [.str t.money], [.str t.account]]⟩]) ?_ ?_
      · refine gos ?_
        refine DrawW.P (.take 0 (.take 1 (.take 2 (.take 4 (.take 5 (.take 7 (.fork (.cons 3 (.take 6 (.take 8 (.take 9 (.take 10 (.take 11 (.take 12 .done)))))) (.cons 6 (.take 3 (.take 8 (.take 9 (.take 10 (.take 11 (.take 12 .done)))))) .nil))))))))) ?_
        refine gos ?_
        refine And.intro (by decide) (Exists.intro ((i / 2 : Nat) : Int) (And.intro (by rw [q2]; exact wrap_i64 (by omega) (by omega)) ?_))
        refine gos ?_
        refine And.intro ?_ (And.intro ?_ trivial)
        all_goals
          (repeat (first | refine gof ?_ | refine fun (vv : Nat) => ?_))
          refine And.intro (And.intro (by omega) (by show (i : Int) < 4; omega)) ?_
          refine gos ?_
          refine ⟨[.int .i64 (perN i)], perEs hlt, ?_⟩
          refine gos ?_
          refine CallW.pure dS rfl rfl ?_
          refine gos ?_
          exact ⟨_, 2, fgts, rfl, rfl⟩
      rintro e h2 ⟨rfl, rfl⟩
      cases hb : patP t i with
      | false =>
        refine AC.go tab ?_
        refine gos ?_
        refine RetW.plain (by simp) ?_
        rw [no hb]
      | true =>
        refine AC.go tab ?_
        refine gos ?_
        refine AC.go tab ?_
        refine gos ?_
        exact ⟨f - 1, _, 2, by omega, fgts, i + 1, by omega, by omega, lt_step hA hb, rfl, rfl⟩
  rintro e h2 ⟨hC, rfl, rfl⟩
  have hF : patsF t = if ckRules t = false then 6 else 0 := by simp [patsF, hC]
  have dR := RParse_does (m := m) t.rules (by have := h.rules; omega)
  have hCk : ckRules t = decide ((rulP t.rules).2.1 = 0) := rfl
  rw [hF, hCk]
  generalize rulP t.rules = x at dR
  obtain ⟨xs, ee, n⟩ := x
  refine AC.step tab ?_
  refine gos ?_
  refine CallW.pure dR rfl rfl ?_
  refine gos ?_
  by_cases h0 : ee = 0
  · refine CmpW.f (by simpa using h0) ?_
    refine gos ?_
    refine AC.go tab ?_
    refine gos ?_
    refine RetW.plain (by simp) ?_
    simp [h0]
  · refine CmpW.t (by simpa using h0) ?_
    refine gos ?_
    refine RetW.plain (by simp) ?_
    simp [h0]
end Go.Proofs.YtpipbjfcbbdicaaGreatDoor

namespace Go.Proofs.YtpipbjfcbbdicaaGreatDoor
open Go Go.Abs
attribute [local irreducible] DrawW CallW RetW AC Does CmpW

/-- The page's first reason. -/
def whyF (t : TTab) : Int :=
  if signsF t ≠ 0 then signsF t else if patsF t ≠ 0 then patsF t
  else if (lrowsF t.short 0 && (lrowsF t.long 0 && lrowsF t.mshort 1)) = false then 7 else if lmoneyF t.curs = false then 8 else if lunitsF t.units = false then 9 else if placedF t.munit 2 = false then 10 else if ckSpc t = false then 11 else 0
theorem Why_does (m : Int) (t : TTab) (h : t.fits) : Does Tryz.prog (GL m) 9 [.agg (tabC t)] [] fun ae _ => ae = .ret (.int .i64 (whyF t)) := by
  have dS := signs_does m t h
  have dP := patterns_does m t h
  have h1 := h.short
  have h2 := h.long
  have h3 := h.mshort
  have h4 := h.curs
  have h5 := h.units
  refine Does.bodyA tab Tryz.func9 rfl rfl ?_
  refine AC.step tab ?_
  refine gos ?_
  intro v1
  refine gos ?_
  refine AC.cutF tab (fun e h => signsF t = 0 ∧ e = [.any, .ptr 0 v1 0 0] ++ List.replicate 56 .any ∧ h = [some ⟨v1, 31, 34, [tabC t]⟩]) ?_ ?_
  · refine gos ?_
    refine CallW.pure dS rfl rfl ?_
    refine gos ?_
    by_cases hs : signsF t = 0
    · refine CmpW.f (by simpa using hs) ?_
      refine gos ?_
      exact ⟨_, 1, fgts, hs, rfl, rfl⟩
    · refine CmpW.t (by simpa using hs) ?_
      refine gos ?_
      refine RetW.plain (by simp) ?_
      simp [whyF, hs]
  rintro e hh ⟨hs, rfl, rfl⟩
  refine AC.cutF tab (fun e h => patsF t = 0 ∧ e = [.any, .ptr 0 v1 0 0] ++ List.replicate 56 .any ∧ h = [some ⟨v1, 31, 34, [tabC t]⟩]) ?_ ?_
  · refine gos ?_
    refine CallW.pure dP rfl rfl ?_
    refine gos ?_
    by_cases hp : patsF t = 0
    · refine CmpW.f (by simpa using hp) ?_
      refine gos ?_
      exact ⟨_, 1, fgts, hp, rfl, rfl⟩
    · refine CmpW.t (by simpa using hp) ?_
      refine gos ?_
      refine RetW.plain (by simp) ?_
      simp [whyF, hs, hp]
  rintro e hh ⟨hp, rfl, rfl⟩
  have hW : whyF t = if (lrowsF t.short 0 && (lrowsF t.long 0 && lrowsF t.mshort 1)) = false then 7 else if lmoneyF t.curs = false then 8 else if lunitsF t.units = false then 9 else if placedF t.munit 2 = false then 10 else if ckSpc t = false then 11 else 0 := by simp [whyF, hs, hp]
  rw [hW]
  refine AC.cutF tab (fun e h => (lrowsF t.short 0 && (lrowsF t.long 0 && lrowsF t.mshort 1)) = true ∧ lmoneyF t.curs = true ∧ lunitsF t.units = true ∧ placedF t.munit 2 = true ∧ ckSpc t = true ∧ e = List.replicate 58 .any ∧ h = []) ?_ ?_
  · refine gos ?_
    refine CallW.pure (lrows_does m t.short 0 h1.1 h1.2) rfl rfl ?_
    cases r0 : lrowsF t.short 0 with
    | false =>
      refine gos ?_
      refine RetW.plain (by simp) ?_
      simp
    | true =>
    refine gos ?_
    refine CallW.pure (lrows_does m t.long 0 h2.1 h2.2) rfl rfl ?_
    cases r1 : lrowsF t.long 0 with
    | false =>
      refine gos ?_
      refine RetW.plain (by simp) ?_
      simp
    | true =>
    refine gos ?_
    refine CallW.pure (lrows_does m t.mshort 1 h3.1 h3.2) rfl rfl ?_
    cases r2 : lrowsF t.mshort 1 with
    | false =>
      refine gos ?_
      refine RetW.plain (by simp) ?_
      simp
    | true =>
    refine gos ?_
    refine CallW.pure (lmoney_does m t.curs h4.1 h4.2) rfl rfl ?_
    cases q0 : lmoneyF t.curs with
    | false =>
      refine gos ?_
      refine RetW.plain (by simp) ?_
      simp
    | true =>
    refine gos ?_
    refine CallW.pure (units_does m t.units h5.1 h5.2) rfl rfl ?_
    cases q1 : lunitsF t.units with
    | false =>
      refine gos ?_
      refine RetW.plain (by simp) ?_
      simp
    | true =>
    refine gos ?_
    refine CallW.pure (placed_does m t.munit h.munit 2 (by omega)) rfl rfl ?_
    cases q2 : placedF t.munit 2 with
    | false =>
      refine gos ?_
      refine RetW.plain (by simp) ?_
      simp
    | true =>
    refine gos ?_
    refine CallW.pure (spaced_does m t.before h.before) rfl rfl ?_
    cases s0 : spcB t.before with
    | false =>
      refine gos ?_
      refine RetW.plain (by simp) ?_
      simp [ckSpc, s0]
    | true =>
    refine gos ?_
    refine CallW.pure (spaced_does m t.after h.after) rfl rfl ?_
    cases s1 : spcB t.after with
    | false =>
      refine gos ?_
      refine RetW.plain (by simp) ?_
      simp [ckSpc, s1]
    | true =>
    refine gos ?_
    exact ⟨_, 0, fgts, by simp, rfl, rfl, rfl, by simp [ckSpc, s0, s1], rfl, rfl⟩
  rintro e hh ⟨a1, a2, a3, a4, a5, rfl, rfl⟩
  refine AC.go tab ?_
  refine gos ?_
  refine RetW.plain (by simp) ?_
  simp [a1, a2, a3, a4, a5]
end Go.Proofs.YtpipbjfcbbdicaaGreatDoor

namespace Go.Proofs.YtpipbjfcbbdicaaGreatDoor
open Go Go.Abs

/-- The category before a place. -/
def prevC (last : Int) (l : List TTxt) : Nat → Int
  | 0 => last
  | i + 1 => match l[i]? with
    | some y => y.cat
    | none => last
theorem prevC_cons (last : Int) (x : TTxt) (l : List TTxt) : ∀ i, i ≤ l.length → prevC last (x :: l) (i + 1) = prevC x.cat l i
  | 0, _ => rfl
  | i + 1, h => by
    simp only [prevC, List.getElem?_cons_succ]
    rw [List.getElem?_eq_getElem (by omega)]
theorem ordL_iff : ∀ (l : List TTxt) (last : Int), ordL last l = true ↔ ((∀ (i : Nat) (x : TTxt), l[i]? = some x → prevC last l i < x.cat) ∧ prevC last l l.length = 5)
  | [], last => by simp [ordL, prevC]
  | x :: l, last => by
    unfold ordL
    by_cases h : x.cat ≤ last
    · rw [if_pos h]
      refine ⟨fun h => (by cases h), fun ⟨h1, _⟩ => ?_⟩
      have := h1 0 x rfl
      simp only [prevC] at this
      omega
    · rw [if_neg h, ordL_iff l x.cat]
      refine and_congr (Iff.intro (fun h1 => ?_) (fun h1 => ?_)) ?_
      · intro i y hy
        cases i with
        | zero =>
          simp only [List.getElem?_cons_zero, Option.some.injEq] at hy
          subst hy
          simp only [prevC]
          omega
        | succ i =>
          rw [List.getElem?_cons_succ] at hy
          rw [prevC_cons _ _ _ _ (by have := (List.getElem?_eq_some_iff.1 hy).1; omega)]
          exact h1 i y hy
      · intro i y hy
        have hl := (List.getElem?_eq_some_iff.1 hy).1
        rw [← prevC_cons last x l i (by omega)]
        exact h1 (i + 1) y (by rw [List.getElem?_cons_succ]; exact hy)
      · rw [List.length_cons, prevC_cons _ _ _ _ (Nat.le_refl _)]
theorem catG_prev {l : List TTxt} {i : Nat} {x : TTxt} (h : l[i]? = some x) : catG l i = (decide (0 ≤ x.cat) && decide (prevC (-1) l i < x.cat)) := by
  unfold catG
  rw [h]
  cases i with
  | zero =>
    by_cases h0 : 0 ≤ x.cat
    · simp only [prevC, h0]
      have : -1 < x.cat := by omega
      simp [this]
    · simp [h0]
  | succ i =>
    have hl := (List.getElem?_eq_some_iff.1 h).1
    obtain ⟨y, hy⟩ : ∃ y, l[i]? = some y := ⟨_, List.getElem?_eq_getElem (by omega)⟩
    simp [prevC, hy]
theorem catsF_order (l : List TTxt) (ok : Nat → Bool) : catsF l ok = (orderF l && allB ok l.length) := by
  rw [Bool.eq_iff_iff]
  unfold catsF orderF
  simp only [Bool.and_eq_true, ordL_iff, allB_iff]
  constructor
  · rintro ⟨h1, h2⟩
    refine ⟨⟨fun i x hx => ?_, ?_⟩, fun j hj => (h2 j hj).2⟩
    · have hl := (List.getElem?_eq_some_iff.1 hx).1
      have h3 := (h2 i hl).1
      rw [catG_prev hx] at h3
      simp only [Bool.and_eq_true, decide_eq_true_eq] at h3
      exact h3.2
    · unfold lastC at h1
      rw [List.getLast?_eq_getElem?] at h1
      cases hn : l.length with
      | zero =>
        rw [hn] at h1
        have : l = [] := List.eq_nil_of_length_eq_zero hn
        subst this
        simp at h1
      | succ n =>
        rw [hn, Nat.add_sub_cancel] at h1
        have e : ∃ y, l[n]? = some y := ⟨_, List.getElem?_eq_getElem (by omega)⟩
        obtain ⟨y, hy⟩ := e
        rw [hy] at h1
        simp only [prevC, hy]
        simpa using h1
  · rintro ⟨⟨h1, h2⟩, h3⟩
    have pos : ∀ (i : Nat) (x : TTxt), l[i]? = some x → 0 ≤ x.cat := by
      intro i
      induction i with
      | zero =>
        intro x hx
        have := h1 0 x hx
        simp only [prevC] at this
        omega
      | succ i ih =>
        intro x hx
        have hl := (List.getElem?_eq_some_iff.1 hx).1
        obtain ⟨y, hy⟩ : ∃ y, l[i]? = some y := ⟨_, List.getElem?_eq_getElem (by omega)⟩
        have h5 := ih y hy
        have := h1 (i + 1) x hx
        simp only [prevC, hy] at this
        omega
    refine ⟨?_, fun j hj => ⟨?_, h3 j hj⟩⟩
    · unfold lastC
      rw [List.getLast?_eq_getElem?]
      cases hn : l.length with
      | zero =>
        rw [hn] at h2
        simp [prevC] at h2
      | succ n =>
        rw [hn] at h2
        obtain ⟨y, hy⟩ : ∃ y, l[n]? = some y := ⟨_, List.getElem?_eq_getElem (by omega)⟩
        simp only [prevC, hy] at h2
        rw [Nat.add_sub_cancel, hy]
        simpa using h2
    · obtain ⟨x, hx⟩ : ∃ x, l[j]? = some x := ⟨_, List.getElem?_eq_getElem hj⟩
      rw [catG_prev hx]
      simp only [Bool.and_eq_true, decide_eq_true_eq]
      exact ⟨pos j x hx, h1 j x hx⟩
theorem allB_get {α : Type} (l : List α) (f : α → Bool) (p : Nat → Bool) (hp : ∀ (i : Nat) (x : α), l[i]? = some x → p i = f x) : allB p l.length = l.all f := by
  rw [Bool.eq_iff_iff, allB_iff, List.all_eq_true]
  constructor
  · intro h x hx
    obtain ⟨i, hi, rfl⟩ := List.getElem_of_mem hx
    rw [← hp i _ (List.getElem?_eq_getElem hi)]
    exact h i hi
  · intro h i hi
    rw [hp i _ (List.getElem?_eq_getElem hi)]
    exact h _ (List.getElem_mem hi)
theorem names_order (l : List TTxt) : catsF l (nameK l) = (orderF l && l.all fun x => nameF x.text) := by
  rw [catsF_order, allB_get l (fun x => nameF x.text) (nameK l) (fun i x hx => by simp [nameK, hx])]
theorem plc_order (n : Int) (l : List TTxt) : catsF l (plcK n l) = placedF l n := by
  rw [catsF_order, allB_get l (fun x => plcOk n x.text) (plcK n l) (fun i x hx => by simp [plcK, hx]), placedF, plcL, Bool.and_comm]
theorem money_law (c : TCur) : lmonB c = moneyB c := by
  unfold lmonB moneyB
  rw [names_order]
  by_cases h : c.names = []
  · simp [h]
  · simp only [h, decide_false, Bool.false_or]
    cases codeF c.code <;> cases maybeF c.symbol <;> cases maybeF c.narrow <;> cases orderF c.names <;> simp

theorem bl_tri : ∀ a b : List UInt8, leB a b = !Op.bytesLess b a := by
  have key : ∀ a b : List UInt8, (Op.bytesLess a b || a == b) = !Op.bytesLess b a := by
    intro a
    induction a with
    | nil => intro b; cases b <;> simp [Op.bytesLess]
    | cons x a ih =>
      intro b
      cases b with
      | nil => simp [Op.bytesLess]
      | cons y b =>
        simp only [Op.bytesLess]
        have h := ih b
        rcases Nat.lt_trichotomy x.toNat y.toNat with hxy | hxy | hxy
        · have h1 : x < y := hxy
          have h2 : ¬ y < x := fun h => by have := UInt8.lt_iff_toNat_lt.1 h; omega
          have h3 : ¬ y = x := fun h => by subst h; omega
          simp [h1, h2, h3]
        · have e : x = y := UInt8.toNat_inj.1 hxy
          subst e
          have h1 : ¬ x < x := fun h => by have := UInt8.lt_iff_toNat_lt.1 h; omega
          simp only [h1, decide_false, Bool.false_or, beq_self_eq_true, Bool.true_and, List.cons_beq_cons]
          exact h
        · have h1 : y < x := hxy
          have h2 : ¬ x < y := fun h => by have := UInt8.lt_iff_toNat_lt.1 h; omega
          have h3 : ¬ x = y := fun h => by subst h; omega
          simp [h1, h2, h3]
  exact key
theorem leB_nil {a : List UInt8} (h : a ≠ []) : leB a [] = false := by
  rw [bl_tri]
  cases a with
  | nil => exact absurd rfl h
  | cons x a => simp [Op.bytesLess]
end Go.Proofs.YtpipbjfcbbdicaaGreatDoor
