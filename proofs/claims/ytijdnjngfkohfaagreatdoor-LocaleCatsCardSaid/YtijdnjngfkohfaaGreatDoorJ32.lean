/- Has a table few things? -/
import Derived.Test.YtijdnjngfkohfaaGreatDoorJ31
import Derived.Test.YtijdnjngfkohfaaGreatDoorJ18
set_option linter.unusedVariables false
set_option linter.unusedSimpArgs false
set_option maxRecDepth 100000
set_option maxHeartbeats 4000000

namespace Go.Proofs.YtijdnjngfkohfaaGreatDoor
open Go Go.Abs
attribute [local irreducible] DrawW CallW RetW AC Does CmpW
variable {G : Globs}
def few (s : List UInt8) : Bool := decide (s.length ≤ 200)
def TTab.strs (t : TTab) : List (List UInt8) := [t.minus, t.plus, t.percent, t.permille, t.point, t.comma, t.decimal, t.per, t.money, t.account, t.before.cur, t.before.num, t.before.ins, t.after.cur, t.after.num, t.after.ins]
def pcP (c : TCur) : Bool := decide (c.code.length + c.symbol.length + c.narrow.length ≤ 200) && (ptxtB c.names && (decide (0 ≤ c.digits) && (decide (0 ≤ c.inc) && (decide (0 ≤ c.cashDigits) && decide (0 ≤ c.cashInc)))))
def puP (u : TUnt) : Bool := few u.name && ptxtB u.texts
def pmB (t : TTab) : Bool := decide (0 ≤ t.minGroup) && (decide (t.rules.length ≤ 5000) && (prowB t.short && (prowB t.long && (prowB t.mshort && (ptxtB t.munit && (decide (t.curs.length ≤ 50) && decide (t.units.length ≤ 50)))))))
def plainB (t : TTab) : Bool := t.dg.list.all few && (t.strs.all few && (pmB t && (t.curs.all pcP && t.units.all puP)))
structure TTab.wide (t : TTab) : Prop where
  dg : ∀ x ∈ t.dg.list, x.length ≤ 140737488355328
  strs : ∀ x ∈ t.strs, x.length ≤ 140737488355328
  rules : t.rules.length ≤ 140737488355328
  short : rowWide t.short
  long : rowWide t.long
  mshort : rowWide t.mshort
  curs : t.curs.length ≤ 140737488355328 ∧ ∀ c ∈ t.curs, c.code.length ≤ 140737488355328 ∧ c.symbol.length ≤ 140737488355328 ∧ c.narrow.length ≤ 140737488355328 ∧ txtWide c.names
  units : t.units.length ≤ 140737488355328 ∧ ∀ u ∈ t.units, u.name.length ≤ 140737488355328 ∧ txtWide u.texts
  munit : txtWide t.munit
theorem strs_len (t : TTab) : t.strs.length = 16 := rfl
theorem plain_does (t : TTab) (hw : t.wide) : Does Tryz.prog G 30 [.agg (tabC t)] [] fun ae _ => ae = .ret (.bool (plainB t)) := by
  obtain ⟨hD, hS, hR, hSh, hLo, hMs, hCu, hUn, hMu⟩ := hw
  have lc : (t.curs.map encCu).length = t.curs.length := by simp
  have lu : (t.units.map encU).length = t.units.length := by simp
  have e0 : ∀ b, plainB t = b ↔ (t.dg.list.all few && (t.strs.all few && (pmB t && (t.curs.all pcP && t.units.all puP)))) = b := fun b => Iff.rfl
  refine Does.bodyA tab Tryz.func30 rfl rfl ?_
  refine AC.step tab ?_
  refine gos ?_
  intro v1
  refine gos ?_
  refine AC.cutF tab (fun e h => t.dg.list.all few = true ∧ e = [.any, .ptr 0 v1 0 0] ++ List.replicate 175 .any ∧ h = [some ⟨v1, 62, 34, [tabC t]⟩]) ?_ ?_
  · refine gos ?_
    refine AC.loopC tab (fun f e h => ∃ (i : Nat), f + i = 11 ∧ i ≤ 10 ∧ t.dg.list.all few = (t.dg.list.drop i).all few ∧
        e = [.any, .ptr 0 v1 0 0, .any, .any, .any, .any, .any, .any, .any, .any, .any, .any, .agg t.dg.cells, .int .i64 i] ++ List.replicate 163 .any ∧ h = [some ⟨v1, 62, 34, [tabC t]⟩])
      11 ⟨_, fgts, 0, by omega, by omega, rfl, rfl, rfl⟩ ?_
    rintro f e h ⟨i, hf, hi, hF, rfl, rfl⟩
    refine gos ?_
    by_cases hlt : i < 10
    case neg =>
      refine CmpW.N ?_
      rw [List.drop_of_length_le (by simp [TDig.list]; omega)] at hF
      refine gos ?_
      exact ⟨_, 1, fgts, hF, rfl, rfl⟩
    obtain ⟨d, hd⟩ : ∃ d, t.dg.list[i]? = some d := ⟨_, List.getElem?_eq_getElem (by simp [TDig.list]; omega)⟩
    rw [drop_cons' hd, List.all_cons] at hF
    have hb := hD d (List.mem_of_getElem? hd)
    have no : few d = false → plainB t = false := fun h => by rw [plainB, hF, h]; rfl
    refine CmpW.T ?_
    refine gos ?_
    refine And.intro (And.intro (by omega) (by omega)) (idx_str (ds := t.dg.list) hd ?_)
    refine gos ?_
    by_cases h2 : d.length ≤ 200
    · refine CmpW.N ?_
      refine gos ?_
      exact ⟨f - 1, _, 1, by omega, fgts, i + 1, by omega, by omega, by rw [hF]; simp [few, h2], rfl, rfl⟩
    · refine CmpW.T ?_
      refine gos ?_
      refine RetW.plain (by simp) ?_
      rw [no (by simp [few, h2])]
  rintro e h ⟨hA, rfl, rfl⟩
  refine AC.cutA (fun e h => t.strs.all few = true ∧ e = [.any, .ptr 0 v1 0 0] ++ List.replicate 175 .any ∧ h = [some ⟨v1, 62, 34, [tabC t]⟩]) ?_ ?_
  · refine AC.cutF tab (fun e h => ∃ (vr L : Nat) (E : List (List AV)), L = 16 ∧ E = t.strs.map encS1 ∧ e = [.any, .ptr 0 v1 0 0] ++ List.replicate 56 .any ++ [.sl 1 vr, .int .i64 L, .int .i64 0] ++ List.replicate 116 .any ∧ h = [some ⟨v1, 62, 34, [tabC t]⟩, some ⟨vr, 9, 1, E⟩]) ?_ ?_
    · (repeat (first | refine gof ?_ | refine fun (vv : Nat) => ?_))
      exact ⟨_, 2, fgts, vv, 16, t.strs.map encS1, rfl, rfl, rfl, rfl⟩
    rintro e h ⟨vr, L, E, rfl, rfl, rfl, rfl⟩
    refine AC.wk (Wk.row (k := 58) (i := 1) (o := ⟨vr, 9, 1, t.strs.map encS1⟩) rfl rfl rfl rfl) ?_
    refine AC.go tab ?_
    refine gos ?_
    refine AC.loopC tab (fun f e h => ∃ (i : Nat), f + i = 17 ∧ i ≤ 16 ∧ t.strs.all few = (t.strs.drop i).all few ∧
        e = [.any, .ptr 0 v1 0 0] ++ List.replicate 56 .any ++ [.fsl (t.strs.map encS1), .int .i64 16, .int .i64 i] ++ List.replicate 116 .any ∧ h = [some ⟨v1, 62, 34, [tabC t]⟩, none])
      17 ⟨_, fgts, 0, by omega, by omega, rfl, rfl, rfl⟩ ?_
    rintro f e h ⟨i, hf, hi, hF, rfl, rfl⟩
    refine gos ?_
    by_cases hlt : i < 16
    case neg =>
      refine CmpW.N ?_
      rw [List.drop_of_length_le (by rw [strs_len]; omega)] at hF
      refine gos ?_
      exact ⟨_, 1, fgts, hF, rfl, rfl⟩
    obtain ⟨d, hd⟩ : ∃ d, t.strs[i]? = some d := ⟨_, List.getElem?_eq_getElem (by rw [strs_len]; omega)⟩
    rw [drop_cons' hd, List.all_cons] at hF
    have hb := hS d (List.mem_of_getElem? hd)
    have no : few d = false → plainB t = false := fun h => by rw [plainB, hA, hF, h]; rfl
    refine CmpW.T ?_
    refine gos ?_
    have ls : (t.strs.map encS1).length = 16 := by rw [List.length_map, strs_len]
    refine And.intro (encS1_one t.strs) (And.intro (by omega) ⟨encS1 d, map_get hd, ?_⟩)
    refine gos ?_
    by_cases h2 : d.length ≤ 200
    · refine CmpW.N ?_
      refine gos ?_
      exact ⟨f - 1, _, 2, by omega, fgts, i + 1, by omega, by omega, by rw [hF]; simp [few, h2], rfl, rfl⟩
    · refine CmpW.T ?_
      refine gos ?_
      refine RetW.plain (by simp) ?_
      rw [no (by simp [few, h2])]
  rintro e h ⟨hB, rfl, rfl⟩
  refine AC.cutF tab (fun e h => pmB t = true ∧ e = [.any, .ptr 0 v1 0 0] ++ List.replicate 175 .any ∧ h = [some ⟨v1, 62, 34, [tabC t]⟩]) ?_ ?_
  · have no : pmB t = false → plainB t = false := fun h => by rw [plainB, hA, hB, h]; rfl
    have cs := hCu.1
    have us := hUn.1
    refine gos ?_
    by_cases m1 : t.minGroup < 0
    · refine CmpW.T ?_
      refine gos ?_
      refine RetW.plain (by simp) ?_
      rw [no (by simp [pmB]; omega)]
    refine CmpW.N ?_
    refine gos ?_
    have m1' : 0 ≤ t.minGroup := by omega
    by_cases m2 : t.rules.length ≤ 5000
    case neg =>
      refine CmpW.T ?_
      refine gos ?_
      refine RetW.plain (by simp) ?_
      rw [no (by simp [pmB, m2])]
    refine CmpW.N ?_
    refine gos ?_
    refine CallW.pure (prows_does t.short hSh) rfl rfl ?_
    cases m3 : prowB t.short with
    | false =>
      refine gos ?_
      refine RetW.plain (by simp) ?_
      rw [no (by simp [pmB, m3])]
    | true =>
    refine gos ?_
    refine CallW.pure (prows_does t.long hLo) rfl rfl ?_
    cases m4 : prowB t.long with
    | false =>
      refine gos ?_
      refine RetW.plain (by simp) ?_
      rw [no (by simp [pmB, m4])]
    | true =>
    refine gos ?_
    refine CallW.pure (prows_does t.mshort hMs) rfl rfl ?_
    cases m5 : prowB t.mshort with
    | false =>
      refine gos ?_
      refine RetW.plain (by simp) ?_
      rw [no (by simp [pmB, m5])]
    | true =>
    refine gos ?_
    refine CallW.pure (ptexts_does t.munit hMu) rfl rfl ?_
    cases m6 : ptxtB t.munit with
    | false =>
      refine gos ?_
      refine RetW.plain (by simp) ?_
      rw [no (by simp [pmB, m6])]
    | true =>
    refine gos ?_
    rw [lc]
    by_cases m7 : t.curs.length ≤ 50
    case neg =>
      refine CmpW.T ?_
      refine gos ?_
      refine RetW.plain (by simp) ?_
      rw [no (by simp [pmB, m7])]
    refine CmpW.N ?_
    refine gos ?_
    rw [lu]
    by_cases m8 : t.units.length ≤ 50
    case neg =>
      refine CmpW.T ?_
      refine gos ?_
      refine RetW.plain (by simp) ?_
      rw [no (by simp [pmB, m8])]
    refine CmpW.N ?_
    refine gos ?_
    exact ⟨_, 1, fgts, by simp [pmB, m1', m2, m3, m4, m5, m6, m7, m8], rfl, rfl⟩
  rintro e h ⟨hC, rfl, rfl⟩
  refine AC.cutF tab (fun e h => t.curs.all pcP = true ∧ e = [.any, .ptr 0 v1 0 0] ++ List.replicate 175 .any ∧ h = [some ⟨v1, 62, 34, [tabC t]⟩]) ?_ ?_
  · have cs := hCu.1
    refine gos ?_
    rw [lc]
    refine AC.loopC tab (fun f e h => ∃ (i : Nat), f + i = t.curs.length + 1 ∧ i ≤ t.curs.length ∧ t.curs.all pcP = (t.curs.drop i).all pcP ∧
        e = [.any, .ptr 0 v1 0 0] ++ List.replicate 112 .any ++ [.fsl (t.curs.map encCu), .int .i64 t.curs.length, .int .i64 i] ++ List.replicate 60 .any ∧ h = [some ⟨v1, 62, 34, [tabC t]⟩])
      (t.curs.length + 1) ⟨_, fgts, 0, by omega, by omega, rfl, rfl, rfl⟩ ?_
    rintro f e h ⟨i, hf, hi, hF, rfl, rfl⟩
    refine gos ?_
    by_cases hlt : i < t.curs.length
    case neg =>
      refine CmpW.N ?_
      rw [List.drop_of_length_le (by omega)] at hF
      refine gos ?_
      exact ⟨_, 1, fgts, hF, rfl, rfl⟩
    obtain ⟨c, hc⟩ : ∃ d, t.curs[i]? = some d := ⟨_, List.getElem?_eq_getElem hlt⟩
    rw [drop_cons' hc, List.all_cons] at hF
    obtain ⟨b1, b2, b3, b4⟩ := hCu.2 c (List.mem_of_getElem? hc)
    have no : pcP c = false → plainB t = false := fun h => by rw [plainB, hA, hB, hC, hF, h]; rfl
    refine CmpW.T ?_
    refine gos ?_
    refine And.intro (encCu_eight t.curs) (And.intro (by omega) ⟨encCu c, map_get hc, ?_⟩)
    (repeat (first | refine gof ?_ | refine fun (vv : Nat) => ?_))
    all_goals try omega
    by_cases c1 : c.code.length + c.symbol.length + c.narrow.length ≤ 200
    case neg =>
      refine CmpW.T ?_
      refine gos ?_
      refine RetW.plain (by simp) ?_
      rw [no (by simp [pcP, c1])]
    refine CmpW.N ?_
    refine gos ?_
    refine CallW.pure (ptexts_does c.names b4) rfl rfl ?_
    cases c2 : ptxtB c.names with
    | false =>
      refine gos ?_
      refine RetW.plain (by simp) ?_
      rw [no (by simp [pcP, c2])]
    | true =>
    refine gos ?_
    by_cases c3 : c.digits < 0
    · refine CmpW.T ?_
      refine gos ?_
      refine RetW.plain (by simp) ?_
      rw [no (by simp only [pcP, show decide (0 ≤ c.digits) = false by simp; omega]; simp)]
    refine CmpW.N ?_
    refine gos ?_
    by_cases c4 : c.inc < 0
    · refine CmpW.T ?_
      refine gos ?_
      refine RetW.plain (by simp) ?_
      rw [no (by simp only [pcP, show decide (0 ≤ c.inc) = false by simp; omega]; simp)]
    refine CmpW.N ?_
    refine gos ?_
    by_cases c5 : c.cashDigits < 0
    · refine CmpW.T ?_
      refine gos ?_
      refine RetW.plain (by simp) ?_
      rw [no (by simp only [pcP, show decide (0 ≤ c.cashDigits) = false by simp; omega]; simp)]
    refine CmpW.N ?_
    refine gos ?_
    by_cases c6 : c.cashInc < 0
    · refine CmpW.T ?_
      refine gos ?_
      refine RetW.plain (by simp) ?_
      rw [no (by simp only [pcP, show decide (0 ≤ c.cashInc) = false by simp; omega]; simp)]
    refine CmpW.N ?_
    refine gos ?_
    have c3' : 0 ≤ c.digits := by omega
    have c4' : 0 ≤ c.inc := by omega
    have c5' : 0 ≤ c.cashDigits := by omega
    have c6' : 0 ≤ c.cashInc := by omega
    exact ⟨f - 1, _, 1, by omega, fgts, i + 1, by omega, by omega, by rw [hF]; simp [pcP, c1, c2, c3', c4', c5', c6'], rfl, rfl⟩
  rintro e h ⟨hDc, rfl, rfl⟩
  refine AC.cutF tab (fun e h => t.units.all puP = true ∧ e = [.any, .ptr 0 v1 0 0] ++ List.replicate 175 .any ∧ h = [some ⟨v1, 62, 34, [tabC t]⟩]) ?_ ?_
  · have us := hUn.1
    refine gos ?_
    rw [lu]
    refine AC.loopC tab (fun f e h => ∃ (i : Nat), f + i = t.units.length + 1 ∧ i ≤ t.units.length ∧ t.units.all puP = (t.units.drop i).all puP ∧
        e = [.any, .ptr 0 v1 0 0] ++ List.replicate 158 .any ++ [.fsl (t.units.map encU), .int .i64 t.units.length, .int .i64 i] ++ List.replicate 14 .any ∧ h = [some ⟨v1, 62, 34, [tabC t]⟩])
      (t.units.length + 1) ⟨_, fgts, 0, by omega, by omega, rfl, rfl, rfl⟩ ?_
    rintro f e h ⟨i, hf, hi, hF, rfl, rfl⟩
    refine gos ?_
    by_cases hlt : i < t.units.length
    case neg =>
      refine CmpW.N ?_
      rw [List.drop_of_length_le (by omega)] at hF
      refine gos ?_
      exact ⟨_, 1, fgts, hF, rfl, rfl⟩
    obtain ⟨u, hu⟩ : ∃ d, t.units[i]? = some d := ⟨_, List.getElem?_eq_getElem hlt⟩
    rw [drop_cons' hu, List.all_cons] at hF
    obtain ⟨b1, b2⟩ := hUn.2 u (List.mem_of_getElem? hu)
    have no : puP u = false → plainB t = false := fun h => by rw [plainB, hA, hB, hC, hDc, hF, h]; rfl
    refine CmpW.T ?_
    refine gos ?_
    refine And.intro (encU_two t.units) (And.intro (by omega) ⟨encU u, map_get hu, ?_⟩)
    (repeat (first | refine gof ?_ | refine fun (vv : Nat) => ?_))
    by_cases u1 : u.name.length ≤ 200
    case neg =>
      refine CmpW.T ?_
      refine gos ?_
      refine RetW.plain (by simp) ?_
      rw [no (by simp [puP, few, u1])]
    refine CmpW.N ?_
    refine gos ?_
    refine CallW.pure (ptexts_does u.texts b2) rfl rfl ?_
    cases u2 : ptxtB u.texts with
    | false =>
      refine gos ?_
      refine RetW.plain (by simp) ?_
      rw [no (by simp [puP, u2])]
    | true =>
    refine gos ?_
    exact ⟨f - 1, _, 1, by omega, fgts, i + 1, by omega, by omega, by rw [hF]; simp [puP, few, u1, u2], rfl, rfl⟩
  rintro e h ⟨hE, rfl, rfl⟩
  refine AC.go tab ?_
  refine gos ?_
  refine RetW.plain (by simp) ?_
  simp [plainB, hA, hB, hC, hDc, hE]
end Go.Proofs.YtijdnjngfkohfaaGreatDoor
