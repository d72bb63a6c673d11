/- Options: their kinds, their codes, their digits. -/
import Derived.Test.YtjjppmbojcgdgaaGreatDoorDcn
set_option linter.unusedVariables false
set_option linter.unusedSimpArgs false
set_option maxRecDepth 100000
set_option maxHeartbeats 4000000
namespace Go.Proofs.YtjjppmbojcgdgaaGreatDoor
open Go Go.Abs
attribute [local irreducible] DrawW CallW RetW AC Does CmpW
variable {G : Globs}

def TOpt.cells (o : TOpt) : List AV := [.int .i64 o.style, .int .i64 o.compact, .str o.code, .str o.unit, .int .i64 o.sym, .bool o.cash, .int .i64 o.mode, .bool o.own, .int .i64 o.prec.kind, .int .i64 o.prec.min, .int .i64 o.prec.max, .bool o.prec.inc.neg, .str o.prec.inc.digits, .int .i64 o.prec.inc.exp, .int .i64 o.prec.mode, .int .i64 o.prec.minInt, .bool o.plain]
def uprB (b : UInt8) : Bool := decide (65 ≤ b.toNat ∧ b.toNat ≤ 90)
theorem ocode_does (s : List UInt8) (hs : s.length < 1000000) : Does Tryz.prog G 203 [.str s] [] fun ae _ => ae = .ret (.bool (lettersF s)) := by
  refine Does.bodyA tab Tryz.func203 rfl rfl ?_
  refine AC.step tab ?_
  refine gos ?_
  refine AC.cutF tab (fun e h => s.all uprB = true ∧ e = ([.str s] ++ List.replicate 22 .any) ∧ h = []) ?_ ?_
  · refine gos ?_
    refine AC.loopC tab (fun f e h => ∃ (i : Nat), f + i = s.length + 1 ∧ i ≤ s.length ∧ s.all uprB = (s.drop i).all uprB ∧ e = ([.str s] ++ List.replicate 4 .any ++ [.int .i64 s.length, .int .i64 i] ++ List.replicate 16 .any) ∧ h = [])
      (s.length + 1) ⟨_, fgts, 0, by omega, by omega, rfl, rfl, rfl⟩ ?_
    rintro f e h ⟨i, hf, hi, hF, rfl, rfl⟩
    refine gos ?_
    by_cases hlt : i < s.length
    · obtain ⟨c, hc⟩ : ∃ c, s[i]? = some c := ⟨_, List.getElem?_eq_getElem hlt⟩
      rw [List.drop_eq_getElem_cons hlt, List.all_cons, (List.getElem?_eq_some_iff.1 hc).2] at hF
      refine CmpW.T ?_
      refine gos ?_
      refine And.intro (by omega) ⟨c, by rw [Int.toNat_natCast]; exact hc, ?_⟩
      refine gos ?_
      by_cases h1 : c.toNat < 65
      · refine CmpW.T ?_
        refine gos ?_
        refine RetW.plain (by simp) ?_
        have : lettersF s = false := by unfold lettersF; show (_ && s.all uprB) = false; rw [hF]; simp [uprB, show ¬ 65 ≤ c.toNat by omega]
        rw [this]
      refine CmpW.f (by simp; omega) ?_
      refine gos ?_
      refine And.intro (by omega) ⟨c, by rw [Int.toNat_natCast]; exact hc, ?_⟩
      refine gos ?_
      by_cases h2 : 90 < c.toNat
      · refine CmpW.T ?_
        refine gos ?_
        refine RetW.plain (by simp) ?_
        have : lettersF s = false := by unfold lettersF; show (_ && s.all uprB) = false; rw [hF]; simp [uprB, show ¬ c.toNat ≤ 90 by omega]
        rw [this]
      refine CmpW.f (by simp; omega) ?_
      refine gos ?_
      exact ⟨f - 1, _, 0, by omega, fgts, i + 1, by omega, by omega, by rw [hF]; simp [uprB, show 65 ≤ c.toNat by omega, show c.toNat ≤ 90 by omega], rfl, rfl⟩
    · refine CmpW.N ?_
      refine gos ?_
      rw [List.drop_of_length_le (by omega)] at hF
      exact ⟨_, 0, fgts, hF, rfl, rfl⟩
  rintro e h ⟨hF, rfl, rfl⟩
  refine AC.go tab ?_
  refine gos ?_
  refine CmpW.s ?_
  refine gos ?_
  refine RetW.plain (by simp) ?_
  have : lettersF s = decide (s.length = 3) := by unfold lettersF; show (_ && s.all uprB) = _; rw [hF, Bool.and_true]
  rw [this]
  congr 2
  rw [Bool.eq_iff_iff]; simp; omega
theorem letters_does (s : List UInt8) (hs : s.length < 1000000) : Does Tryz.prog G 132 [.str s] [] fun ae _ => ae = .ret (.bool (lettersF s)) := by
  refine Does.bodyA tab Tryz.func132 rfl rfl ?_
  refine AC.step tab ?_
  refine gos ?_
  refine AC.cutF tab (fun e h => s.length = 3 ∧ e = ([.str s] ++ List.replicate 20 .any) ∧ h = []) ?_ ?_
  · refine gos ?_
    by_cases h3 : s.length = 3
    · refine CmpW.f (by simp [h3]) ?_
      refine gos ?_
      exact ⟨_, 0, fgts, h3, rfl, rfl⟩
    · refine CmpW.t (by simp; omega) ?_
      refine gos ?_
      refine RetW.plain (by simp) ?_
      simp [lettersF, h3]
  rintro e h ⟨h3, rfl, rfl⟩
  refine AC.cutF tab (fun e h => s.all uprB = true ∧ e = List.replicate 21 .any ∧ h = []) ?_ ?_
  · refine gos ?_
    refine AC.loopC tab (fun f e h => ∃ (i : Nat), f + i = 4 ∧ i ≤ 3 ∧ s.all uprB = (s.drop i).all uprB ∧ e = ([.str s] ++ List.replicate 2 .any ++ [.int .i64 i] ++ List.replicate 17 .any) ∧ h = [])
      4 ⟨_, fgts, 0, by omega, by omega, rfl, rfl, rfl⟩ ?_
    rintro f e h ⟨i, hf, hi, hF, rfl, rfl⟩
    refine gos ?_
    by_cases hlt : i < 3
    · have hlt2 : i < s.length := by omega
      obtain ⟨c, hc⟩ : ∃ c, s[i]? = some c := ⟨_, List.getElem?_eq_getElem hlt2⟩
      rw [List.drop_eq_getElem_cons hlt2, List.all_cons, (List.getElem?_eq_some_iff.1 hc).2] at hF
      refine CmpW.T ?_
      refine gos ?_
      refine And.intro (by omega) ⟨c, by rw [Int.toNat_natCast]; exact hc, ?_⟩
      refine gos ?_
      by_cases h1 : c.toNat < 65
      · refine CmpW.T ?_
        refine gos ?_
        refine RetW.plain (by simp) ?_
        have : lettersF s = false := by unfold lettersF; show (_ && s.all uprB) = false; rw [hF]; simp [uprB, show ¬ 65 ≤ c.toNat by omega]
        rw [this]
      refine CmpW.f (by simp; omega) ?_
      refine gos ?_
      refine And.intro (by omega) ⟨c, by rw [Int.toNat_natCast]; exact hc, ?_⟩
      refine gos ?_
      by_cases h2 : 90 < c.toNat
      · refine CmpW.T ?_
        refine gos ?_
        refine RetW.plain (by simp) ?_
        have : lettersF s = false := by unfold lettersF; show (_ && s.all uprB) = false; rw [hF]; simp [uprB, show ¬ c.toNat ≤ 90 by omega]
        rw [this]
      refine CmpW.f (by simp; omega) ?_
      refine gos ?_
      exact ⟨f - 1, _, 0, by omega, fgts, i + 1, by omega, by omega, by rw [hF]; simp [uprB, show 65 ≤ c.toNat by omega, show c.toNat ≤ 90 by omega], rfl, rfl⟩
    · refine CmpW.N ?_
      refine gos ?_
      rw [List.drop_of_length_le (by omega)] at hF
      exact ⟨_, 0, fgts, hF, rfl, rfl⟩
  rintro e h ⟨hF, rfl, rfl⟩
  refine AC.go tab ?_
  refine gos ?_
  refine RetW.plain (by simp) ?_
  have : lettersF s = true := by unfold lettersF; show (_ && s.all uprB) = _; rw [hF, h3]; rfl
  rw [this]
def smallB (o : TOpt) : Bool := decide (o.code.length ≤ 60) && decide (o.unit.length ≤ 60) && decide (o.prec.inc.digits.length ≤ 60)
theorem small22_does (o : TOpt) : Does Tryz.prog G 42 [.agg o.cells] [] fun ae _ => ae = .ret (.bool (smallB o)) := by
  refine Does.body tab Tryz.func42 rfl rfl ?_
  refine gos ?_
  intro v1
  refine gos ?_
  by_cases h1 : o.code.length ≤ 60
  case neg =>
    refine CmpW.f (by simp; omega) ?_
    refine gos ?_
    refine RetW.plain (by simp) ?_
    simp [smallB, h1]
  refine CmpW.t (by simp; omega) ?_
  refine gos ?_
  by_cases h2 : o.unit.length ≤ 60
  case neg =>
    refine CmpW.f (by simp; omega) ?_
    refine gos ?_
    refine RetW.plain (by simp) ?_
    simp [smallB, h2]
  refine CmpW.t (by simp; omega) ?_
  refine gos ?_
  refine CmpW.s ?_
  refine gos ?_
  refine RetW.plain (by simp) ?_
  simp only [smallB, h1, h2, decide_true, Bool.true_and]
  congr 2
  rw [Bool.eq_iff_iff]; simp; omega
theorem omoney_does (o : TOpt) : Does Tryz.prog G 199 [.agg o.cells] [] fun ae _ => ae = .ret (.bool (monyB o)) := by
  refine Does.body tab Tryz.func199 rfl rfl ?_
  refine gos ?_
  intro v1
  refine gos ?_
  by_cases h1 : o.style = 2
  · refine CmpW.t (by simpa using h1) ?_
    refine gos ?_
    refine RetW.plain (by simp) ?_
    simp [monyB, h1]
  refine CmpW.f (by simpa using h1) ?_
  refine gos ?_
  by_cases h2 : o.style = 3
  · refine CmpW.t (by simpa using h2) ?_
    refine gos ?_
    refine RetW.plain (by simp) ?_
    simp [monyB, h2]
  refine CmpW.f (by simpa using h2) ?_
  refine gos ?_
  refine CmpW.s ?_
  refine gos ?_
  refine RetW.plain (by simp) ?_
  simp [monyB, h1, h2] <;> rfl
theorem kinds_does (o : TOpt) : Does Tryz.prog G 127 [.agg o.cells] [] fun ae _ => ae = .ret (.bool (kindsB o)) := by
  have dM := MValid_does (G := G) o.mode
  refine Does.body tab Tryz.func127 rfl rfl ?_
  refine gos ?_
  intro v1
  refine gos ?_
  by_cases h1 : 0 ≤ o.style
  case neg =>
    refine CmpW.f (by simp; omega) ?_
    refine gos ?_
    refine RetW.plain (by simp) ?_
    simp [kindsB, h1]
  refine CmpW.t (by simp; omega) ?_
  refine gos ?_
  by_cases h2 : o.style ≤ 5
  case neg =>
    refine CmpW.f (by simp; omega) ?_
    refine gos ?_
    refine RetW.plain (by simp) ?_
    simp [kindsB, h2]
  refine CmpW.t (by simp; omega) ?_
  refine gos ?_
  by_cases h3 : 0 ≤ o.compact
  case neg =>
    refine CmpW.f (by simp; omega) ?_
    refine gos ?_
    refine RetW.plain (by simp) ?_
    simp [kindsB, h3]
  refine CmpW.t (by simp; omega) ?_
  refine gos ?_
  by_cases h4 : o.compact ≤ 2
  case neg =>
    refine CmpW.f (by simp; omega) ?_
    refine gos ?_
    refine RetW.plain (by simp) ?_
    simp [kindsB, h4]
  refine CmpW.t (by simp; omega) ?_
  refine gos ?_
  by_cases h5 : 0 ≤ o.sym
  case neg =>
    refine CmpW.f (by simp; omega) ?_
    refine gos ?_
    refine RetW.plain (by simp) ?_
    simp [kindsB, h5]
  refine CmpW.t (by simp; omega) ?_
  refine gos ?_
  by_cases h6 : o.sym ≤ 2
  case neg =>
    refine CmpW.f (by simp; omega) ?_
    refine gos ?_
    refine RetW.plain (by simp) ?_
    simp [kindsB, h6]
  refine CmpW.t (by simp; omega) ?_
  refine gos ?_
  refine CallW.pure dM rfl rfl ?_
  refine gos ?_
  refine RetW.plain (by simp) ?_
  simp [kindsB, h1, h2, h3, h4, h5, h6]
theorem shorter_does (o : TOpt) : Does Tryz.prog G 128 [.agg o.cells] [] fun ae _ => ae = .ret (.bool (shorterB o)) := by
  refine Does.body tab Tryz.func128 rfl rfl ?_
  refine gos ?_
  intro v1
  refine gos ?_
  by_cases h1 : o.compact = 1
  · refine CmpW.t (by simpa using h1) ?_
    refine gos ?_
    by_cases h2 : o.style = 0
    · refine CmpW.t (by simpa using h2) ?_
      refine gos ?_
      refine RetW.plain (by simp) ?_
      simp [shorterB, h1, h2]
    · refine CmpW.f (by simpa using h2) ?_
      refine gos ?_
      refine CmpW.s ?_
      refine gos ?_
      refine RetW.plain (by simp) ?_
      simp [shorterB, h1, h2] <;> rfl
  refine CmpW.f (by simpa using h1) ?_
  refine gos ?_
  by_cases h2 : o.compact = 2
  · refine CmpW.t (by simpa using h2) ?_
    refine gos ?_
    refine CmpW.s ?_
    refine gos ?_
    refine RetW.plain (by simp) ?_
    simp [shorterB, h2] <;> rfl
  · refine CmpW.f (by simpa using h2) ?_
    refine gos ?_
    refine RetW.plain (by simp) ?_
    simp [shorterB, h1, h2]
theorem digits22_does (o : TOpt) (hs : o.prec.inc.digits.length < 1000000) : Does Tryz.prog G 129 [.agg o.cells] [] fun ae _ => ae = .ret (.bool (digitsB o)) := by
  have dV := Valid4_does (G := G) o.prec hs
  unfold digitsB
  generalize pvalF o.prec = v at *
  obtain ⟨ow, how⟩ : ∃ b, b = o.own := ⟨_, rfl⟩
  rw [← how]
  refine Does.body tab Tryz.func129 rfl rfl ?_
  refine gos ?_
  intro v1
  refine gos ?_
  rw [← how]
  cases ow
  · refine gos ?_
    refine RetW.plain (by simp) ?_
    rfl
  · refine gos ?_
    refine CallW.pure dV rfl rfl ?_
    cases v
    · refine gos ?_
      refine RetW.plain (by simp) ?_
      rfl
    · refine gos ?_
      by_cases h1 : o.compact = 0
      · refine CmpW.t (by simpa using h1) ?_
        refine gos ?_
        refine RetW.plain (by simp) ?_
        simp [h1]
      · refine CmpW.f (by simpa using h1) ?_
        refine gos ?_
        refine CmpW.s ?_
        refine gos ?_
        refine RetW.plain (by simp) ?_
        simp [h1] <;> rfl
end Go.Proofs.YtjjppmbojcgdgaaGreatDoor
