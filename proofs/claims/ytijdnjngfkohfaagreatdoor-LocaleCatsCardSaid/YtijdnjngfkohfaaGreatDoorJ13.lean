/- Sorting ranges: partitionEqual. -/
import Derived.Test.YtijdnjngfkohfaaGreatDoorJ12
set_option linter.unusedVariables false
set_option linter.unusedSimpArgs false
set_option maxRecDepth 100000
set_option maxHeartbeats 4000000

namespace Go.Proofs.YtijdnjngfkohfaaGreatDoor
open Go Go.Abs
attribute [local irreducible] DrawW CallW RetW AC Does CmpW
variable {G : Globs}
theorem partE (a i j : Nat) (d : Array Rg) (i2 j2 : Nat) (h1 : i2 = Sort.scanUp (fun x => !ltR d[a]! x) d j i) (h2 : j2 = Sort.scanDown (fun x => ltR d[a]! x) d i2 j) :
    Sort.partEqLoop ltR a i j d = if i2 > j2 then (i2, d) else if (j2 - 1) + 1 - (i2 + 1) < j + 1 - i then Sort.partEqLoop ltR a (i2 + 1) (j2 - 1) (Sort.swp d i2 j2) else (i2, d) := by
  subst h1
  subst h2
  conv => lhs; unfold Sort.partEqLoop
  simp only [dite_eq_ite]
theorem pqlR_does (d : Array Rg) (a b pivot ver : Nat) (hab : a < b) (hb : b ≤ d.size) (hp : pivot < d.size) (hs : d.size < 1000000) :
    Does Tryz.prog G 198 [.sl 0 ver, .int .i64 a, .int .i64 b, .int .i64 pivot, cmpV] [some (rgs ver d)] fun ae O =>
      ae = .ret (.int .i64 (Sort.partitionEqual ltR d a b pivot).1) ∧ O = [some (rgs ver (Sort.partitionEqual ltR d a b pivot).2)] := by
  refine Does.bodyA tab Tryz.func198 rfl rfl ?_
  refine AC.step tab ?_
  refine gos ?_
  obtain ⟨d1, hd1⟩ : ∃ x, x = Sort.swp d a pivot := ⟨_, rfl⟩
  have hsd1 : d1.size = d.size := by rw [hd1, swp_size]
  refine AC.cutF tab (fun e h => e = [.sl 0 ver, .int .i64 a, .int .i64 b, .any, cmpV] ++ List.replicate 85 .any ∧ h = [some (rgs ver d1)]) ?_ ?_
  · rw [hd1]
    refine gos ?_
    refine DrawW.L ?_
    (repeat (first | refine gof ?_ | refine fun (vv : Nat) => ?_))
    refine And.intro (And.intro (by omega) (by first | (rw [rgs_len]; omega) | (simp only [List.length_set]; rw [rgs_len]; omega))) ?_
    (repeat (first | refine gof ?_ | refine fun (vv : Nat) => ?_))
    refine ⟨encG d[pivot]!, rgs_get (by omega), ?_⟩
    (repeat (first | refine gof ?_ | refine fun (vv : Nat) => ?_))
    refine And.intro (And.intro (by omega) (by first | (rw [rgs_len]; omega) | (simp only [List.length_set]; rw [rgs_len]; omega))) ?_
    (repeat (first | refine gof ?_ | refine fun (vv : Nat) => ?_))
    refine ⟨encG d[a]!, rgs_get (by omega), ?_⟩
    (repeat (first | refine gof ?_ | refine fun (vv : Nat) => ?_))
    refine And.intro (And.intro (by omega) (by first | (rw [rgs_len]; omega) | (simp only [List.length_set]; rw [rgs_len]; omega))) ?_
    (repeat (first | refine gof ?_ | refine fun (vv : Nat) => ?_))
    refine ⟨encG d[a]!, rgs_get (by omega), ?_⟩
    (repeat (first | refine gof ?_ | refine fun (vv : Nat) => ?_))
    refine And.intro (And.intro (by omega) (by first | (rw [rgs_len]; omega) | (simp only [List.length_set]; rw [rgs_len]; omega))) ?_
    (repeat (first | refine gof ?_ | refine fun (vv : Nat) => ?_))
    refine ⟨encG d[pivot]!, swp_mid (by omega) (by omega), ?_⟩
    (repeat (first | refine gof ?_ | refine fun (vv : Nat) => ?_))
    exact ⟨_, 1, fgts, rfl, congrArg (fun es => [some (⟨ver, 145, 2, es⟩ : AObj)]) (swp_enc (by omega) (by omega))⟩
  rintro e h ⟨rfl, rfl⟩
  refine AC.step tab ?_
  refine gos ?_
  simp only [show (b : Int) - 1 = ((b - 1 : Nat) : Int) by omega, show (a : Int) + 1 = ((a + 1 : Nat) : Int) by omega]
  obtain ⟨R, hR⟩ : ∃ R, R = Sort.partEqLoop ltR a (a + 1) (b - 1) d1 := ⟨_, rfl⟩
  have hP : Sort.partitionEqual ltR d a b pivot = R := by
    rw [hR, hd1]; rfl
  rw [hP]
  refine AC.cutA (fun e h => e = [.sl 0 ver, .any, .any, .any, cmpV, .any, .any, .any, .any, .any, .any, .int .i64 R.1] ++ List.replicate 78 .any ∧ h = [some (rgs ver R.2)]) ?_ ?_
  · refine AC.blk ?_
    refine AC.loopA (fun f e h => ∃ (i j : Nat) (d' : Array Rg), j + 1 < f + i ∧ a < i ∧ j < d.size ∧ d'.size = d.size ∧ R = Sort.partEqLoop ltR a i j d' ∧ e = [.sl 0 ver, .int .i64 a, .any, .any, cmpV, .any, .any, .any, .any, .any, .any, .int .i64 i, .int .i64 j] ++ List.replicate 77 .any ∧ h = [some (rgs ver d')])
      (b + 1) ⟨_, fgts, a + 1, b - 1, d1, by omega, by omega, by omega, by omega, hR, rfl, rfl⟩ ?_
    rintro f e h ⟨i, j, d', hf, hi, hj, hsd', hRR, rfl, rfl⟩
    refine AC.blk ?_
    obtain ⟨u2, hu2⟩ : ∃ u, u = Sort.scanUp (fun x => !ltR d'[a]! x) d' j i := ⟨_, rfl⟩
    have hu2l := up_le (fun x => !ltR d'[a]! x) d' j i
    rw [← hu2] at hu2l
    refine AC.cutF tab (fun e h => e = [.sl 0 ver, .int .i64 a, .any, .any, cmpV, .any, .any, .any, .any, .any, .any, .int .i64 u2, .int .i64 j] ++ List.replicate 77 .any ∧ h = [some (rgs ver d')]) ?_ ?_
    · refine AC.loopC tab (fun f e h => ∃ i', j + 1 < f + i' ∧ i ≤ i' ∧ u2 = Sort.scanUp (fun x => !ltR d'[a]! x) d' j i' ∧ e = [.sl 0 ver, .int .i64 a, .any, .any, cmpV, .any, .any, .any, .any, .any, .any, .int .i64 i', .int .i64 j] ++ List.replicate 77 .any ∧ h = [some (rgs ver d')])
        (j + 2) ⟨_, fgts, i, by omega, by omega, hu2, rfl, rfl⟩ ?_
      rintro f e h ⟨i', hf, hi, hS, rfl, rfl⟩
      refine gos ?_
      refine DrawW.L ?_
      (repeat (first | refine gof ?_ | refine fun (vv : Nat) => ?_))
      by_cases hij : i' ≤ j
      · refine CmpW.T ?_
        (repeat (first | refine gof ?_ | refine fun (vv : Nat) => ?_))
        refine And.intro (And.intro (by omega) (by first | (rw [rgs_len]; omega) | (simp only [List.length_set]; rw [rgs_len]; omega))) ?_
        (repeat (first | refine gof ?_ | refine fun (vv : Nat) => ?_))
        refine ⟨encG d'[a]!, rgs_get (by omega), ?_⟩
        (repeat (first | refine gof ?_ | refine fun (vv : Nat) => ?_))
        refine And.intro (And.intro (by omega) (by first | (rw [rgs_len]; omega) | (simp only [List.length_set]; rw [rgs_len]; omega))) ?_
        (repeat (first | refine gof ?_ | refine fun (vv : Nat) => ?_))
        refine ⟨encG d'[i']!, rgs_get (by omega), ?_⟩
        (repeat (first | refine gof ?_ | refine fun (vv : Nat) => ?_))
        refine CallW.pure (cmpR_does d'[a]! d'[i']!) rfl rfl ?_
        (repeat (first | refine gof ?_ | refine fun (vv : Nat) => ?_))
        cases hc : ltR d'[a]! d'[i']! with
        | false =>
          refine CmpW.f (ltR_f hc) ?_
          refine gos ?_
          rw [up_t hij (by simp [hc])] at hS
          exact ⟨f - 1, _, 1, by omega, fgts, i' + 1, by omega, by omega, hS, rfl, rfl⟩
        | true =>
          refine CmpW.t (ltR_t hc) ?_
          refine gos ?_
          rw [up_f (by simp [hc])] at hS
          subst hS
          exact ⟨_, 1, fgts, rfl, rfl⟩
      · refine CmpW.N ?_
        refine gos ?_
        rw [up_f (by simp [hij])] at hS
        subst hS
        exact ⟨_, 1, fgts, rfl, rfl⟩
    rintro e h ⟨rfl, rfl⟩
    obtain ⟨w2, hw2⟩ : ∃ w, w = Sort.scanDown (fun x => ltR d'[a]! x) d' u2 j := ⟨_, rfl⟩
    have hw2l := dn_le (fun x => ltR d'[a]! x) d' u2 j
    rw [← hw2] at hw2l
    refine AC.cutF tab (fun e h => e = [.sl 0 ver, .int .i64 a, .any, .any, cmpV, .any, .any, .any, .any, .any, .any, .int .i64 u2, .int .i64 w2] ++ List.replicate 77 .any ∧ h = [some (rgs ver d')]) ?_ ?_
    · refine AC.loopC tab (fun f e h => ∃ j', j' < f ∧ j' ≤ j ∧ w2 = Sort.scanDown (fun x => ltR d'[a]! x) d' u2 j' ∧ e = [.sl 0 ver, .int .i64 a, .any, .any, cmpV, .any, .any, .any, .any, .any, .any, .int .i64 u2, .int .i64 j'] ++ List.replicate 77 .any ∧ h = [some (rgs ver d')])
        (j + 1) ⟨_, fgts, j, by omega, by omega, hw2, rfl, rfl⟩ ?_
      rintro f e h ⟨j', hf, hj, hS, rfl, rfl⟩
      refine gos ?_
      refine DrawW.L ?_
      (repeat (first | refine gof ?_ | refine fun (vv : Nat) => ?_))
      by_cases hij : u2 ≤ j'
      · obtain ⟨k, rfl⟩ : ∃ k, j' = k + 1 := ⟨j' - 1, by omega⟩
        refine CmpW.T ?_
        (repeat (first | refine gof ?_ | refine fun (vv : Nat) => ?_))
        refine And.intro (And.intro (by omega) (by first | (rw [rgs_len]; omega) | (simp only [List.length_set]; rw [rgs_len]; omega))) ?_
        (repeat (first | refine gof ?_ | refine fun (vv : Nat) => ?_))
        refine ⟨encG d'[a]!, rgs_get (by omega), ?_⟩
        (repeat (first | refine gof ?_ | refine fun (vv : Nat) => ?_))
        refine And.intro (And.intro (by omega) (by first | (rw [rgs_len]; omega) | (simp only [List.length_set]; rw [rgs_len]; omega))) ?_
        (repeat (first | refine gof ?_ | refine fun (vv : Nat) => ?_))
        refine ⟨encG d'[k + 1]!, rgs_get (by omega), ?_⟩
        (repeat (first | refine gof ?_ | refine fun (vv : Nat) => ?_))
        refine CallW.pure (cmpR_does d'[a]! d'[k + 1]!) rfl rfl ?_
        (repeat (first | refine gof ?_ | refine fun (vv : Nat) => ?_))
        cases hc : ltR d'[a]! d'[k + 1]! with
        | true =>
          refine CmpW.t (ltR_t hc) ?_
          refine gos ?_
          simp only [show ((k + 1 : Nat) : Int) - 1 = (k : Int) by omega]
          rw [dn_t hij (by simp [hc])] at hS
          exact ⟨f - 1, _, 1, by omega, fgts, k, by omega, by omega, hS, rfl, rfl⟩
        | false =>
          refine CmpW.f (ltR_f hc) ?_
          refine gos ?_
          rw [dn_f (by simp [hc])] at hS
          subst hS
          exact ⟨_, 1, fgts, rfl, rfl⟩
      · refine CmpW.N ?_
        refine gos ?_
        rw [dn_g (by omega)] at hS
        subst hS
        exact ⟨_, 1, fgts, rfl, rfl⟩
    rintro e h ⟨rfl, rfl⟩
    rw [partE a i j d' u2 w2 hu2 hw2] at hRR
    refine AC.step tab ?_
    refine gos ?_
    by_cases hwu2 : w2 < u2
    · refine CmpW.T ?_
      rw [if_pos hwu2] at hRR
      subst hRR
      refine gos ?_
      exact ⟨_, 1, fgts, rfl, rfl⟩
    refine CmpW.N ?_
    rw [if_neg hwu2, if_pos (by omega)] at hRR
    refine gos ?_
    obtain ⟨d3, hd3⟩ : ∃ x, x = Sort.swp d' u2 w2 := ⟨_, rfl⟩
    have hsd3 : d3.size = d.size := by rw [hd3, swp_size]; exact hsd'
    refine AC.cutF tab (fun e h => e = [.sl 0 ver, .int .i64 a, .any, .any, cmpV, .any, .any, .any, .any, .any, .any, .int .i64 u2, .int .i64 w2] ++ List.replicate 77 .any ∧ h = [some (rgs ver d3)]) ?_ ?_
    · rw [hd3]
      refine gos ?_
      refine DrawW.L ?_
      (repeat (first | refine gof ?_ | refine fun (vv : Nat) => ?_))
      refine And.intro (And.intro (by omega) (by first | (rw [rgs_len]; omega) | (simp only [List.length_set]; rw [rgs_len]; omega))) ?_
      (repeat (first | refine gof ?_ | refine fun (vv : Nat) => ?_))
      refine ⟨encG d'[w2]!, rgs_get (by omega), ?_⟩
      (repeat (first | refine gof ?_ | refine fun (vv : Nat) => ?_))
      refine And.intro (And.intro (by omega) (by first | (rw [rgs_len]; omega) | (simp only [List.length_set]; rw [rgs_len]; omega))) ?_
      (repeat (first | refine gof ?_ | refine fun (vv : Nat) => ?_))
      refine ⟨encG d'[u2]!, rgs_get (by omega), ?_⟩
      (repeat (first | refine gof ?_ | refine fun (vv : Nat) => ?_))
      refine And.intro (And.intro (by omega) (by first | (rw [rgs_len]; omega) | (simp only [List.length_set]; rw [rgs_len]; omega))) ?_
      (repeat (first | refine gof ?_ | refine fun (vv : Nat) => ?_))
      refine ⟨encG d'[u2]!, rgs_get (by omega), ?_⟩
      (repeat (first | refine gof ?_ | refine fun (vv : Nat) => ?_))
      refine And.intro (And.intro (by omega) (by first | (rw [rgs_len]; omega) | (simp only [List.length_set]; rw [rgs_len]; omega))) ?_
      (repeat (first | refine gof ?_ | refine fun (vv : Nat) => ?_))
      refine ⟨encG d'[w2]!, swp_mid (by omega) (by omega), ?_⟩
      (repeat (first | refine gof ?_ | refine fun (vv : Nat) => ?_))
      exact ⟨_, 1, fgts, rfl, congrArg (fun es => [some (⟨ver, 145, 2, es⟩ : AObj)]) (swp_enc (by omega) (by omega))⟩
    rintro e h ⟨rfl, rfl⟩
    rw [← hd3] at hRR
    refine AC.step tab ?_
    refine gos ?_
    refine AC.go tab ?_
    refine gos ?_
    simp only [show (w2 : Int) - 1 = ((w2 - 1 : Nat) : Int) by omega, show (u2 : Int) + 1 = ((u2 + 1 : Nat) : Int) by omega]
    exact ⟨f - 1, _, 1, by omega, fgts, u2 + 1, w2 - 1, d3, by omega, by omega, by omega, hsd3, hRR, rfl, rfl⟩
  rintro e h ⟨rfl, rfl⟩
  refine AC.step tab ?_
  refine gos ?_
  refine AC.go tab ?_
  refine gos ?_
  refine RetW.plain (by simp) ?_
  exact ⟨rfl, rfl⟩
end Go.Proofs.YtijdnjngfkohfaaGreatDoor
