/- Sorting ranges: partialInsertionSort. -/
import Derived.Test.YtjjppmbojcgdgaaGreatDoorJ04
set_option linter.unusedVariables false
set_option linter.unusedSimpArgs false
set_option maxRecDepth 100000
set_option maxHeartbeats 4000000

namespace Go.Proofs.YtjjppmbojcgdgaaGreatDoor
open Go Go.Abs
attribute [local irreducible] DrawW CallW RetW AC Does CmpW
variable {G : Globs}
theorem partE (a i j : Nat) (d : Array Rg) (i2 j2 : Nat) (h1 : i2 = Sort.scanUp (fun x => !ltR d[a]! x) d j i) (h2 : j2 = Sort.scanDown (fun x => ltR d[a]! x) d i2 j) :
    Sort.partEqLoop ltR a i j d = if i2 > j2 then (i2, d) else if (j2 - 1) + 1 - (i2 + 1) < j + 1 - i then Sort.partEqLoop ltR a (i2 + 1) (j2 - 1) (Sort.swp d i2 j2) else (i2, d) := by
  subst h1
  subst h2
  conv => lhs; unfold Sort.partEqLoop
  simp only [dite_eq_ite]
theorem pqlR_does (d : Array Rg) (a b pivot ver : Nat) (hab : a < b) (hb : b ≤ d.size) (hp : pivot < d.size) (hs : d.size < 1000000) :
    Does Tryz.prog G 219 [.sl 0 ver, .int .i64 a, .int .i64 b, .int .i64 pivot, cmpV] [some (rgs ver d)] fun ae O =>
      ae = .ret (.int .i64 (Sort.partitionEqual ltR d a b pivot).1) ∧ O = [some (rgs ver (Sort.partitionEqual ltR d a b pivot).2)] := by
  refine Does.bodyA tab Tryz.func219 rfl rfl ?_
  refine AC.step tab ?_
  refine gos ?_
  obtain ⟨d1, hd1⟩ : ∃ x, x = Sort.swp d a pivot := ⟨_, rfl⟩
  have hsd1 : d1.size = d.size := by rw [hd1, swp_size]
  refine AC.cutF tab (fun e h => e = [.sl 0 ver, .int .i64 a, .int .i64 b, .any, cmpV] ++ List.replicate 85 .any ∧ h = [some (rgs ver d1)]) ?_ ?_
  · rw [hd1]
    refine gos ?_
    refine DrawW.L ?_
    (repeat (first | refine gof ?_ | refine fun (vv : Nat) => ?_))
    refine And.intro (And.intro (by omega) (by first | (rw [rgs_len]; omega) | (simp only [List.length_set]; rw [rgs_len]; omega))) ?_
    (repeat (first | refine gof ?_ | refine fun (vv : Nat) => ?_))
    refine ⟨encG d[pivot]!, rgs_get (by omega), ?_⟩
    (repeat (first | refine gof ?_ | refine fun (vv : Nat) => ?_))
    refine And.intro (And.intro (by omega) (by first | (rw [rgs_len]; omega) | (simp only [List.length_set]; rw [rgs_len]; omega))) ?_
    (repeat (first | refine gof ?_ | refine fun (vv : Nat) => ?_))
    refine ⟨encG d[a]!, rgs_get (by omega), ?_⟩
    (repeat (first | refine gof ?_ | refine fun (vv : Nat) => ?_))
    refine And.intro (And.intro (by omega) (by first | (rw [rgs_len]; omega) | (simp only [List.length_set]; rw [rgs_len]; omega))) ?_
    (repeat (first | refine gof ?_ | refine fun (vv : Nat) => ?_))
    refine ⟨encG d[a]!, rgs_get (by omega), ?_⟩
    (repeat (first | refine gof ?_ | refine fun (vv : Nat) => ?_))
    refine And.intro (And.intro (by omega) (by first | (rw [rgs_len]; omega) | (simp only [List.length_set]; rw [rgs_len]; omega))) ?_
    (repeat (first | refine gof ?_ | refine fun (vv : Nat) => ?_))
    refine ⟨encG d[pivot]!, swp_mid (by omega) (by omega), ?_⟩
    (repeat (first | refine gof ?_ | refine fun (vv : Nat) => ?_))
    exact ⟨_, 1, fgts, rfl, congrArg (fun es => [some (⟨ver, 121, 2, es⟩ : AObj)]) (swp_enc (by omega) (by omega))⟩
  rintro e h ⟨rfl, rfl⟩
  refine AC.step tab ?_
  refine gos ?_
  simp only [show (b : Int) - 1 = ((b - 1 : Nat) : Int) by omega, show (a : Int) + 1 = ((a + 1 : Nat) : Int) by omega]
  obtain ⟨R, hR⟩ : ∃ R, R = Sort.partEqLoop ltR a (a + 1) (b - 1) d1 := ⟨_, rfl⟩
  have hP : Sort.partitionEqual ltR d a b pivot = R := by
    rw [hR, hd1]; rfl
  rw [hP]
  refine AC.cutA (fun e h => e = [.sl 0 ver, .any, .any, .any, cmpV, .any, .any, .any, .any, .any, .any, .int .i64 R.1] ++ List.replicate 78 .any ∧ h = [some (rgs ver R.2)]) ?_ ?_
  · refine AC.blk ?_
    refine AC.loopA (fun f e h => ∃ (i j : Nat) (d' : Array Rg), j + 1 < f + i ∧ a < i ∧ j < d.size ∧ d'.size = d.size ∧ R = Sort.partEqLoop ltR a i j d' ∧ e = [.sl 0 ver, .int .i64 a, .any, .any, cmpV, .any, .any, .any, .any, .any, .any, .int .i64 i, .int .i64 j] ++ List.replicate 77 .any ∧ h = [some (rgs ver d')])
      (b + 1) ⟨_, fgts, a + 1, b - 1, d1, by omega, by omega, by omega, by omega, hR, rfl, rfl⟩ ?_
    rintro f e h ⟨i, j, d', hf, hi, hj, hsd', hRR, rfl, rfl⟩
    refine AC.blk ?_
    obtain ⟨u2, hu2⟩ : ∃ u, u = Sort.scanUp (fun x => !ltR d'[a]! x) d' j i := ⟨_, rfl⟩
    have hu2l := up_le (fun x => !ltR d'[a]! x) d' j i
    rw [← hu2] at hu2l
    refine AC.cutF tab (fun e h => e = [.sl 0 ver, .int .i64 a, .any, .any, cmpV, .any, .any, .any, .any, .any, .any, .int .i64 u2, .int .i64 j] ++ List.replicate 77 .any ∧ h = [some (rgs ver d')]) ?_ ?_
    · refine AC.loopC tab (fun f e h => ∃ i', j + 1 < f + i' ∧ i ≤ i' ∧ u2 = Sort.scanUp (fun x => !ltR d'[a]! x) d' j i' ∧ e = [.sl 0 ver, .int .i64 a, .any, .any, cmpV, .any, .any, .any, .any, .any, .any, .int .i64 i', .int .i64 j] ++ List.replicate 77 .any ∧ h = [some (rgs ver d')])
        (j + 2) ⟨_, fgts, i, by omega, by omega, hu2, rfl, rfl⟩ ?_
      rintro f e h ⟨i', hf, hi, hS, rfl, rfl⟩
      refine gos ?_
      refine DrawW.L ?_
      (repeat (first | refine gof ?_ | refine fun (vv : Nat) => ?_))
      by_cases hij : i' ≤ j
      · refine CmpW.T ?_
        (repeat (first | refine gof ?_ | refine fun (vv : Nat) => ?_))
        refine And.intro (And.intro (by omega) (by first | (rw [rgs_len]; omega) | (simp only [List.length_set]; rw [rgs_len]; omega))) ?_
        (repeat (first | refine gof ?_ | refine fun (vv : Nat) => ?_))
        refine ⟨encG d'[a]!, rgs_get (by omega), ?_⟩
        (repeat (first | refine gof ?_ | refine fun (vv : Nat) => ?_))
        refine And.intro (And.intro (by omega) (by first | (rw [rgs_len]; omega) | (simp only [List.length_set]; rw [rgs_len]; omega))) ?_
        (repeat (first | refine gof ?_ | refine fun (vv : Nat) => ?_))
        refine ⟨encG d'[i']!, rgs_get (by omega), ?_⟩
        (repeat (first | refine gof ?_ | refine fun (vv : Nat) => ?_))
        refine CallW.pure (cmpR_does d'[a]! d'[i']!) rfl rfl ?_
        (repeat (first | refine gof ?_ | refine fun (vv : Nat) => ?_))
        cases hc : ltR d'[a]! d'[i']! with
        | false =>
          refine CmpW.f (ltR_f hc) ?_
          refine gos ?_
          rw [up_t hij (by simp [hc])] at hS
          exact ⟨f - 1, _, 1, by omega, fgts, i' + 1, by omega, by omega, hS, rfl, rfl⟩
        | true =>
          refine CmpW.t (ltR_t hc) ?_
          refine gos ?_
          rw [up_f (by simp [hc])] at hS
          subst hS
          exact ⟨_, 1, fgts, rfl, rfl⟩
      · refine CmpW.N ?_
        refine gos ?_
        rw [up_f (by simp [hij])] at hS
        subst hS
        exact ⟨_, 1, fgts, rfl, rfl⟩
    rintro e h ⟨rfl, rfl⟩
    obtain ⟨w2, hw2⟩ : ∃ w, w = Sort.scanDown (fun x => ltR d'[a]! x) d' u2 j := ⟨_, rfl⟩
    have hw2l := dn_le (fun x => ltR d'[a]! x) d' u2 j
    rw [← hw2] at hw2l
    refine AC.cutF tab (fun e h => e = [.sl 0 ver, .int .i64 a, .any, .any, cmpV, .any, .any, .any, .any, .any, .any, .int .i64 u2, .int .i64 w2] ++ List.replicate 77 .any ∧ h = [some (rgs ver d')]) ?_ ?_
    · refine AC.loopC tab (fun f e h => ∃ j', j' < f ∧ j' ≤ j ∧ w2 = Sort.scanDown (fun x => ltR d'[a]! x) d' u2 j' ∧ e = [.sl 0 ver, .int .i64 a, .any, .any, cmpV, .any, .any, .any, .any, .any, .any, .int .i64 u2, .int .i64 j'] ++ List.replicate 77 .any ∧ h = [some (rgs ver d')])
        (j + 1) ⟨_, fgts, j, by omega, by omega, hw2, rfl, rfl⟩ ?_
      rintro f e h ⟨j', hf, hj, hS, rfl, rfl⟩
      refine gos ?_
      refine DrawW.L ?_
      (repeat (first | refine gof ?_ | refine fun (vv : Nat) => ?_))
      by_cases hij : u2 ≤ j'
      · obtain ⟨k, rfl⟩ : ∃ k, j' = k + 1 := ⟨j' - 1, by omega⟩
        refine CmpW.T ?_
        (repeat (first | refine gof ?_ | refine fun (vv : Nat) => ?_))
        refine And.intro (And.intro (by omega) (by first | (rw [rgs_len]; omega) | (simp only [List.length_set]; rw [rgs_len]; omega))) ?_
        (repeat (first | refine gof ?_ | refine fun (vv : Nat) => ?_))
        refine ⟨encG d'[a]!, rgs_get (by omega), ?_⟩
        (repeat (first | refine gof ?_ | refine fun (vv : Nat) => ?_))
        refine And.intro (And.intro (by omega) (by first | (rw [rgs_len]; omega) | (simp only [List.length_set]; rw [rgs_len]; omega))) ?_
        (repeat (first | refine gof ?_ | refine fun (vv : Nat) => ?_))
        refine ⟨encG d'[k + 1]!, rgs_get (by omega), ?_⟩
        (repeat (first | refine gof ?_ | refine fun (vv : Nat) => ?_))
        refine CallW.pure (cmpR_does d'[a]! d'[k + 1]!) rfl rfl ?_
        (repeat (first | refine gof ?_ | refine fun (vv : Nat) => ?_))
        cases hc : ltR d'[a]! d'[k + 1]! with
        | true =>
          refine CmpW.t (ltR_t hc) ?_
          refine gos ?_
          simp only [show ((k + 1 : Nat) : Int) - 1 = (k : Int) by omega]
          rw [dn_t hij (by simp [hc])] at hS
          exact ⟨f - 1, _, 1, by omega, fgts, k, by omega, by omega, hS, rfl, rfl⟩
        | false =>
          refine CmpW.f (ltR_f hc) ?_
          refine gos ?_
          rw [dn_f (by simp [hc])] at hS
          subst hS
          exact ⟨_, 1, fgts, rfl, rfl⟩
      · refine CmpW.N ?_
        refine gos ?_
        rw [dn_g (by omega)] at hS
        subst hS
        exact ⟨_, 1, fgts, rfl, rfl⟩
    rintro e h ⟨rfl, rfl⟩
    rw [partE a i j d' u2 w2 hu2 hw2] at hRR
    refine AC.step tab ?_
    refine gos ?_
    by_cases hwu2 : w2 < u2
    · refine CmpW.T ?_
      rw [if_pos hwu2] at hRR
      subst hRR
      refine gos ?_
      exact ⟨_, 1, fgts, rfl, rfl⟩
    refine CmpW.N ?_
    rw [if_neg hwu2, if_pos (by omega)] at hRR
    refine gos ?_
    obtain ⟨d3, hd3⟩ : ∃ x, x = Sort.swp d' u2 w2 := ⟨_, rfl⟩
    have hsd3 : d3.size = d.size := by rw [hd3, swp_size]; exact hsd'
    refine AC.cutF tab (fun e h => e = [.sl 0 ver, .int .i64 a, .any, .any, cmpV, .any, .any, .any, .any, .any, .any, .int .i64 u2, .int .i64 w2] ++ List.replicate 77 .any ∧ h = [some (rgs ver d3)]) ?_ ?_
    · rw [hd3]
      refine gos ?_
      refine DrawW.L ?_
      (repeat (first | refine gof ?_ | refine fun (vv : Nat) => ?_))
      refine And.intro (And.intro (by omega) (by first | (rw [rgs_len]; omega) | (simp only [List.length_set]; rw [rgs_len]; omega))) ?_
      (repeat (first | refine gof ?_ | refine fun (vv : Nat) => ?_))
      refine ⟨encG d'[w2]!, rgs_get (by omega), ?_⟩
      (repeat (first | refine gof ?_ | refine fun (vv : Nat) => ?_))
      refine And.intro (And.intro (by omega) (by first | (rw [rgs_len]; omega) | (simp only [List.length_set]; rw [rgs_len]; omega))) ?_
      (repeat (first | refine gof ?_ | refine fun (vv : Nat) => ?_))
      refine ⟨encG d'[u2]!, rgs_get (by omega), ?_⟩
      (repeat (first | refine gof ?_ | refine fun (vv : Nat) => ?_))
      refine And.intro (And.intro (by omega) (by first | (rw [rgs_len]; omega) | (simp only [List.length_set]; rw [rgs_len]; omega))) ?_
      (repeat (first | refine gof ?_ | refine fun (vv : Nat) => ?_))
      refine ⟨encG d'[u2]!, rgs_get (by omega), ?_⟩
      (repeat (first | refine gof ?_ | refine fun (vv : Nat) => ?_))
      refine And.intro (And.intro (by omega) (by first | (rw [rgs_len]; omega) | (simp only [List.length_set]; rw [rgs_len]; omega))) ?_
      (repeat (first | refine gof ?_ | refine fun (vv : Nat) => ?_))
      refine ⟨encG d'[w2]!, swp_mid (by omega) (by omega), ?_⟩
      (repeat (first | refine gof ?_ | refine fun (vv : Nat) => ?_))
      exact ⟨_, 1, fgts, rfl, congrArg (fun es => [some (⟨ver, 121, 2, es⟩ : AObj)]) (swp_enc (by omega) (by omega))⟩
    rintro e h ⟨rfl, rfl⟩
    rw [← hd3] at hRR
    refine AC.step tab ?_
    refine gos ?_
    refine AC.go tab ?_
    refine gos ?_
    simp only [show (w2 : Int) - 1 = ((w2 - 1 : Nat) : Int) by omega, show (u2 : Int) + 1 = ((u2 + 1 : Nat) : Int) by omega]
    exact ⟨f - 1, _, 1, by omega, fgts, u2 + 1, w2 - 1, d3, by omega, by omega, by omega, hsd3, hRR, rfl, rfl⟩
  rintro e h ⟨rfl, rfl⟩
  refine AC.step tab ?_
  refine gos ?_
  refine AC.go tab ?_
  refine gos ?_
  refine RetW.plain (by simp) ?_
  exact ⟨rfl, rfl⟩
end Go.Proofs.YtjjppmbojcgdgaaGreatDoor

namespace Go.Proofs.YtjjppmbojcgdgaaGreatDoor
open Go Go.Abs
attribute [local irreducible] DrawW CallW RetW AC Does CmpW
variable {G : Globs}
theorem ss_t {d : Array Rg} {b k : Nat} (h : k + 1 < b) (hc : ltR d[k + 1]! d[k]! = false) : Sort.scanSorted ltR d b (k + 1) = Sort.scanSorted ltR d b (k + 1 + 1) := by
  conv => lhs; unfold Sort.scanSorted
  rw [if_pos (by simp [h, hc])]
theorem ss_f {d : Array Rg} {b k : Nat} (h : ¬ (k + 1 < b ∧ ltR d[k + 1]! d[k]! = false)) : Sort.scanSorted ltR d b (k + 1) = k + 1 := by
  unfold Sort.scanSorted
  rw [if_neg (by simpa using h)]
theorem ss_le1 (d : Array Rg) (b : Nat) : ∀ n i, b - i ≤ n → i ≤ Sort.scanSorted ltR d b i ∧ (Sort.scanSorted ltR d b i ≤ i ∨ Sort.scanSorted ltR d b i ≤ b) := by
  intro n
  induction n with
  | zero => intro i h; unfold Sort.scanSorted; rw [if_neg (by simp; omega)]; omega
  | succ n ih =>
    intro i h
    unfold Sort.scanSorted
    split
    · have := ih (i + 1) (by omega)
      rename_i h2
      simp at h2
      omega
    · omega
theorem ss_le (d : Array Rg) (b i : Nat) : i ≤ Sort.scanSorted ltR d b i ∧ (Sort.scanSorted ltR d b i ≤ i ∨ Sort.scanSorted ltR d b i ≤ b) := ss_le1 d b _ i (Nat.le_refl _)
theorem sd_size : ∀ (j : Nat) (d : Array Rg), (Sort.shiftDown ltR j d).size = d.size
  | 0, d => rfl
  | j + 1, d => by
    unfold Sort.shiftDown
    split
    · rfl
    · rw [sd_size j, swp_size]
theorem su_size1 (b : Nat) : ∀ (n j : Nat) (d : Array Rg), b - j ≤ n → (Sort.shiftUp ltR b j d).size = d.size := by
  intro n
  induction n with
  | zero => intro j d h; unfold Sort.shiftUp; rw [if_neg (by omega)]
  | succ n ih =>
    intro j d h
    unfold Sort.shiftUp
    split
    · split
      · rfl
      · rw [ih _ _ (by omega), swp_size]
    · rfl
theorem su_size (b j : Nat) (d : Array Rg) : (Sort.shiftUp ltR b j d).size = d.size := su_size1 b _ j d (Nat.le_refl _)
theorem pisR_does (d : Array Rg) (a b ver : Nat) (hab : a < b) (hb : b ≤ d.size) (hs : d.size < 1000000) :
    Does Tryz.prog G 218 [.sl 0 ver, .int .i64 a, .int .i64 b, cmpV] [some (rgs ver d)] fun ae O =>
      ae = .ret (.bool (Sort.partialInsertionSort ltR d a b).2) ∧ O = [some (rgs ver (Sort.partialInsertionSort ltR d a b).1)] := by
  refine Does.bodyA tab Tryz.func218 rfl rfl ?_
  refine AC.step tab ?_
  refine gos ?_
  refine AC.step tab ?_
  refine gos ?_
  obtain ⟨R, hR⟩ : ∃ R, R = Sort.partialInsertionSort ltR d a b := ⟨_, rfl⟩
  rw [← hR]
  refine AC.cutA (fun e h => R.2 = false ∧ e = [.sl 0 ver] ++ List.replicate 140 .any ∧ h = [some (rgs ver R.1)]) ?_ ?_
  · refine AC.step tab ?_
    refine gos ?_
    refine AC.blk ?_
    refine AC.loopA (fun f e h => ∃ (s i : Nat) (d' : Array Rg), s + f = 6 ∧ s ≤ 5 ∧ a < i ∧ i ≤ b ∧ d'.size = d.size ∧ R = Sort.partialIns ltR a b (5 - s) i d' ∧ e = [.sl 0 ver, .int .i64 a, .int .i64 b, cmpV, .any, .any, .any, .any, .any, .int .i64 i, .int .i64 s, .any, .any] ++ List.replicate 128 .any ∧ h = [some (rgs ver d')])
      6 ⟨_, fgts, 0, a + 1, d, by omega, by omega, by omega, by omega, rfl, hR, rfl, rfl⟩ ?_
    rintro f e h ⟨s, i, d', hf, hs5, hai, hib, hsd', hRR, rfl, rfl⟩
    refine AC.step tab ?_
    refine gos ?_
    by_cases h5 : s < 5
    case neg =>
      refine CmpW.N ?_
      refine gos ?_
      rw [show 5 - s = 0 by omega] at hRR
      subst hRR
      exact ⟨_, 1, fgts, rfl, rfl, rfl⟩
    refine CmpW.T ?_
    refine gos ?_
    obtain ⟨r, hr⟩ : ∃ r, r + 1 = 5 - s := ⟨4 - s, by omega⟩
    rw [← hr] at hRR
    unfold Sort.partialIns at hRR
    simp only at hRR
    refine AC.seqA ?_
    refine AC.blk ?_
    obtain ⟨u, hu⟩ : ∃ u, u = Sort.scanSorted ltR d' b i := ⟨_, rfl⟩
    rw [← hu] at hRR
    have hul := ss_le d' b i
    rw [← hu] at hul
    refine AC.cutF tab (fun e h => e = [.sl 0 ver, .int .i64 a, .int .i64 b, cmpV, .any, .any, .any, .any, .any, .int .i64 u, .int .i64 s, .any, .any] ++ List.replicate 128 .any ∧ h = [some (rgs ver d')]) ?_ ?_
    · refine AC.loopC tab (fun f e h => ∃ i', b < f + i' ∧ i ≤ i' ∧ i' ≤ b ∧ u = Sort.scanSorted ltR d' b i' ∧ e = [.sl 0 ver, .int .i64 a, .int .i64 b, cmpV, .any, .any, .any, .any, .any, .int .i64 i', .int .i64 s, .any, .any] ++ List.replicate 128 .any ∧ h = [some (rgs ver d')])
        (b + 1) ⟨_, fgts, i, by omega, by omega, hib, hu, rfl, rfl⟩ ?_
      rintro f e h ⟨i', hf, hi, hi2, hS, rfl, rfl⟩
      refine gos ?_
      refine DrawW.L ?_
      (repeat (first | refine gof ?_ | refine fun (vv : Nat) => ?_))
      obtain ⟨k, rfl⟩ : ∃ k, i' = k + 1 := ⟨i' - 1, by omega⟩
      by_cases hkb : k + 1 < b
      · refine CmpW.T ?_
        (repeat (first | refine gof ?_ | refine fun (vv : Nat) => ?_))
        refine And.intro (And.intro (by omega) (by first | (rw [rgs_len]; omega) | (simp only [List.length_set]; rw [rgs_len]; omega))) ?_
        (repeat (first | refine gof ?_ | refine fun (vv : Nat) => ?_))
        refine ⟨encG d'[k + 1]!, rgs_get (by omega), ?_⟩
        (repeat (first | refine gof ?_ | refine fun (vv : Nat) => ?_))
        simp only [show ((k + 1 : Nat) : Int) - 1 = (k : Int) by omega]
        refine And.intro (And.intro (by omega) (by first | (rw [rgs_len]; omega) | (simp only [List.length_set]; rw [rgs_len]; omega))) ?_
        (repeat (first | refine gof ?_ | refine fun (vv : Nat) => ?_))
        refine ⟨encG d'[k]!, rgs_get (by omega), ?_⟩
        (repeat (first | refine gof ?_ | refine fun (vv : Nat) => ?_))
        refine CallW.pure (cmpR_does d'[k + 1]! d'[k]!) rfl rfl ?_
        (repeat (first | refine gof ?_ | refine fun (vv : Nat) => ?_))
        cases hc : ltR d'[k + 1]! d'[k]! with
        | false =>
          refine CmpW.f (ltR_f hc) ?_
          refine gos ?_
          rw [ss_t hkb hc] at hS
          exact ⟨f - 1, _, 1, by omega, fgts, k + 1 + 1, by omega, by omega, by omega, hS, rfl, rfl⟩
        | true =>
          refine CmpW.t (ltR_t hc) ?_
          refine gos ?_
          rw [ss_f (by simp [hc])] at hS
          subst hS
          exact ⟨_, 1, fgts, rfl, rfl⟩
      · refine CmpW.N ?_
        refine gos ?_
        rw [ss_f (by simp [hkb])] at hS
        subst hS
        exact ⟨_, 1, fgts, rfl, rfl⟩
    rintro e h ⟨rfl, rfl⟩
    refine AC.step tab ?_
    refine gos ?_
    by_cases hub : u = b
    · refine CmpW.T ?_
      rw [if_pos hub] at hRR
      subst hRR
      refine gos ?_
      refine RetW.plain (by simp) ?_
      exact ⟨rfl, rfl⟩
    refine CmpW.N ?_
    rw [if_neg hub] at hRR
    refine gos ?_
    refine AC.step tab ?_
    refine gos ?_
    by_cases h50 : b - a < 50
    · refine CmpW.T ?_
      rw [if_pos h50] at hRR
      subst hRR
      refine gos ?_
      refine RetW.plain (by simp) ?_
      exact ⟨rfl, rfl⟩
    refine CmpW.N ?_
    rw [if_neg h50] at hRR
    refine gos ?_
    obtain ⟨k, hk⟩ : ∃ k, u = k + 1 := ⟨u - 1, by omega⟩
    subst hk
    rw [show k + 1 - 1 = k from rfl] at hRR
    obtain ⟨d2, hd2⟩ : ∃ x, x = Sort.swp d' (k + 1) k := ⟨_, rfl⟩
    have hsd2 : d2.size = d.size := by rw [hd2, swp_size]; exact hsd'
    refine AC.cutF tab (fun e h => e = [.sl 0 ver, .int .i64 a, .int .i64 b, cmpV, .any, .any, .any, .any, .any, .int .i64 (k + 1 : Nat), .int .i64 s, .any, .any] ++ List.replicate 128 .any ∧ h = [some (rgs ver d2)]) ?_ ?_
    · rw [hd2]
      refine gos ?_
      refine DrawW.L ?_
      (repeat (first | refine gof ?_ | refine fun (vv : Nat) => ?_))
      simp only [show ((k + 1 : Nat) : Int) - 1 = (k : Int) by omega]
      refine And.intro (And.intro (by omega) (by first | (rw [rgs_len]; omega) | (simp only [List.length_set]; rw [rgs_len]; omega))) ?_
      (repeat (first | refine gof ?_ | refine fun (vv : Nat) => ?_))
      refine ⟨encG d'[k]!, rgs_get (by omega), ?_⟩
      (repeat (first | refine gof ?_ | refine fun (vv : Nat) => ?_))
      refine And.intro (And.intro (by omega) (by first | (rw [rgs_len]; omega) | (simp only [List.length_set]; rw [rgs_len]; omega))) ?_
      (repeat (first | refine gof ?_ | refine fun (vv : Nat) => ?_))
      refine ⟨encG d'[k + 1]!, rgs_get (by omega), ?_⟩
      (repeat (first | refine gof ?_ | refine fun (vv : Nat) => ?_))
      refine And.intro (And.intro (by omega) (by first | (rw [rgs_len]; omega) | (simp only [List.length_set]; rw [rgs_len]; omega))) ?_
      (repeat (first | refine gof ?_ | refine fun (vv : Nat) => ?_))
      refine ⟨encG d'[k + 1]!, rgs_get (by omega), ?_⟩
      (repeat (first | refine gof ?_ | refine fun (vv : Nat) => ?_))
      refine And.intro (And.intro (by omega) (by first | (rw [rgs_len]; omega) | (simp only [List.length_set]; rw [rgs_len]; omega))) ?_
      (repeat (first | refine gof ?_ | refine fun (vv : Nat) => ?_))
      refine ⟨encG d'[k]!, swp_mid (by omega) (by omega), ?_⟩
      (repeat (first | refine gof ?_ | refine fun (vv : Nat) => ?_))
      exact ⟨_, 1, fgts, rfl, congrArg (fun es => [some (⟨ver, 121, 2, es⟩ : AObj)]) (swp_enc (by omega) (by omega))⟩
    rintro e h ⟨rfl, rfl⟩
    rw [← hd2] at hRR
    obtain ⟨d3, hd3⟩ : ∃ x, x = if k + 1 - a ≥ 2 then Sort.shiftDown ltR k d2 else d2 := ⟨_, rfl⟩
    rw [← hd3] at hRR
    have hsd3 : d3.size = d.size := by rw [hd3]; (split <;> first | (rw [sd_size]; exact hsd2) | exact hsd2)
    refine AC.cutF tab (fun e h => e = [.sl 0 ver, .int .i64 a, .int .i64 b, cmpV, .any, .any, .any, .any, .any, .int .i64 (k + 1 : Nat), .int .i64 s, .any, .any] ++ List.replicate 128 .any ∧ h = [some (rgs ver d3)]) ?_ ?_
    · refine gos ?_
      by_cases h2 : k + 1 - a ≥ 2
      case neg =>
        refine CmpW.N ?_
        rw [if_neg h2] at hd3
        subst hd3
        refine gos ?_
        exact ⟨_, 1, fgts, rfl, rfl⟩
      refine CmpW.T ?_
      rw [if_pos h2] at hd3
      refine gos ?_
      simp only [show ((k + 1 : Nat) : Int) - 1 = (k : Int) by omega]
      refine AC.loopC tab (fun f e h => ∃ (j : Nat) (dd : Array Rg), j < f ∧ j ≤ k ∧ dd.size = d.size ∧ d3 = Sort.shiftDown ltR j dd ∧ e = [.sl 0 ver, .int .i64 a, .int .i64 b, cmpV, .any, .any, .any, .any, .any, .int .i64 (k + 1 : Nat), .int .i64 s, .int .i64 j, .any] ++ List.replicate 128 .any ∧ h = [some (rgs ver dd)])
        (k + 1) ⟨_, fgts, k, d2, by omega, by omega, hsd2, hd3, rfl, rfl⟩ ?_
      rintro f e h ⟨j, dd, hf, hj, hsdd, hS, rfl, rfl⟩
      refine gos ?_
      cases j with
      | zero =>
        refine CmpW.f (by simp) ?_
        refine gos ?_
        have hS : d3 = dd := hS
        subst hS
        exact ⟨_, 1, fgts, rfl, rfl⟩
      | succ k =>
      refine CmpW.T ?_
      refine gos ?_
      refine DrawW.L ?_
      (repeat (first | refine gof ?_ | refine fun (vv : Nat) => ?_))
      refine And.intro (And.intro (by omega) (by first | (rw [rgs_len]; omega) | (simp only [List.length_set]; rw [rgs_len]; omega))) ?_
      (repeat (first | refine gof ?_ | refine fun (vv : Nat) => ?_))
      refine ⟨encG dd[k + 1]!, rgs_get (by omega), ?_⟩
      (repeat (first | refine gof ?_ | refine fun (vv : Nat) => ?_))
      simp only [show ((k + 1 : Nat) : Int) - 1 = (k : Int) by omega]
      refine And.intro (And.intro (by omega) (by first | (rw [rgs_len]; omega) | (simp only [List.length_set]; rw [rgs_len]; omega))) ?_
      (repeat (first | refine gof ?_ | refine fun (vv : Nat) => ?_))
      refine ⟨encG dd[k]!, rgs_get (by omega), ?_⟩
      (repeat (first | refine gof ?_ | refine fun (vv : Nat) => ?_))
      refine CallW.pure (cmpR_does dd[k + 1]! dd[k]!) rfl rfl ?_
      (repeat (first | refine gof ?_ | refine fun (vv : Nat) => ?_))
      unfold Sort.shiftDown at hS
      cases hc : ltR dd[k + 1]! dd[k]! with
      | false =>
        refine CmpW.f (ltR_f hc) ?_
        rw [if_pos (by simp [hc])] at hS
        subst hS
        refine gos ?_
        exact ⟨_, 1, fgts, rfl, rfl⟩
      | true =>
        refine CmpW.t (ltR_t hc) ?_
        rw [if_neg (by simp [hc])] at hS
        refine gos ?_
        refine DrawW.L ?_
        (repeat (first | refine gof ?_ | refine fun (vv : Nat) => ?_))
        simp only [show ((k + 1 : Nat) : Int) - 1 = (k : Int) by omega]
        refine And.intro (And.intro (by omega) (by first | (rw [rgs_len]; omega) | (simp only [List.length_set]; rw [rgs_len]; omega))) ?_
        (repeat (first | refine gof ?_ | refine fun (vv : Nat) => ?_))
        refine ⟨encG dd[k]!, rgs_get (by omega), ?_⟩
        (repeat (first | refine gof ?_ | refine fun (vv : Nat) => ?_))
        refine And.intro (And.intro (by omega) (by first | (rw [rgs_len]; omega) | (simp only [List.length_set]; rw [rgs_len]; omega))) ?_
        (repeat (first | refine gof ?_ | refine fun (vv : Nat) => ?_))
        refine ⟨encG dd[k + 1]!, rgs_get (by omega), ?_⟩
        (repeat (first | refine gof ?_ | refine fun (vv : Nat) => ?_))
        refine And.intro (And.intro (by omega) (by first | (rw [rgs_len]; omega) | (simp only [List.length_set]; rw [rgs_len]; omega))) ?_
        (repeat (first | refine gof ?_ | refine fun (vv : Nat) => ?_))
        refine ⟨encG dd[k + 1]!, rgs_get (by omega), ?_⟩
        (repeat (first | refine gof ?_ | refine fun (vv : Nat) => ?_))
        refine And.intro (And.intro (by omega) (by first | (rw [rgs_len]; omega) | (simp only [List.length_set]; rw [rgs_len]; omega))) ?_
        (repeat (first | refine gof ?_ | refine fun (vv : Nat) => ?_))
        refine ⟨encG dd[k]!, swp_mid (by omega) (by omega), ?_⟩
        (repeat (first | refine gof ?_ | refine fun (vv : Nat) => ?_))
        simp only [show ((k + 1 : Nat) : Int) - 1 = (k : Int) by omega]
        exact ⟨f - 1, _, 1, by omega, fgts, k, Sort.swp dd (k + 1) k, by omega, by omega, by rw [swp_size]; exact hsdd, hS, rfl, congrArg (fun es => [some (⟨ver, 121, 2, es⟩ : AObj)]) (swp_enc (by omega) (by omega))⟩
    rintro e h ⟨rfl, rfl⟩
    obtain ⟨d4, hd4⟩ : ∃ x, x = if b - (k + 1) ≥ 2 then Sort.shiftUp ltR b (k + 1 + 1) d3 else d3 := ⟨_, rfl⟩
    rw [← hd4] at hRR
    have hsd4 : d4.size = d.size := by rw [hd4]; (split <;> first | (rw [su_size]; exact hsd3) | exact hsd3)
    have e5 : 5 - (s + 1) = r := by omega
    refine AC.go tab ?_
    refine gos ?_
    by_cases h2 : b - (k + 1) ≥ 2
    case neg =>
      refine CmpW.N ?_
      rw [if_neg h2] at hd4
      subst hd4
      refine gos ?_
      refine AC.go tab ?_
      refine gos ?_
      exact ⟨f - 1, _, 1, by omega, fgts, s + 1, k + 1, d4, by omega, by omega, by omega, by omega, hsd4, by rw [e5]; exact hRR, rfl, rfl⟩
    refine CmpW.T ?_
    rw [if_pos h2] at hd4
    refine gos ?_
    simp only [show ((k + 1 : Nat) : Int) + 1 = ((k + 1 + 1 : Nat) : Int) by omega]
    obtain ⟨k0, hk0⟩ : ∃ x, x = k + 1 := ⟨_, rfl⟩
    rw [← hk0] at hRR hd4 ⊢
    refine AC.loopC tab (fun g e h => ∃ (j : Nat) (dd : Array Rg), b < g + j ∧ k0 < j ∧ j ≤ b ∧ dd.size = d.size ∧ d4 = Sort.shiftUp ltR b j dd ∧ e = [.sl 0 ver, .int .i64 a, .int .i64 b, cmpV, .any, .any, .any, .any, .any, .int .i64 k0, .int .i64 s, .any, .int .i64 j] ++ List.replicate 128 .any ∧ h = [some (rgs ver dd)])
      (b + 1) ⟨_, fgts, k0 + 1, d3, by omega, by omega, by omega, hsd3, hd4, rfl, rfl⟩ ?_
    rintro g e h ⟨j, dd, hg, hj, hjb, hsdd, hS, rfl, rfl⟩
    obtain ⟨k, rfl⟩ : ∃ k, j = k + 1 := ⟨j - 1, by omega⟩
    unfold Sort.shiftUp at hS
    rw [show k + 1 - 1 = k from rfl] at hS
    refine gos ?_
    by_cases hkb : k + 1 < b
    case neg =>
      refine CmpW.N ?_
      rw [if_neg hkb] at hS
      subst hS
      refine gos ?_
      refine AC.go tab ?_
      refine gos ?_
      exact ⟨f - 1, _, 1, by omega, fgts, s + 1, k0, d4, by omega, by omega, by omega, by omega, hsd4, by rw [e5]; exact hRR, rfl, rfl⟩
    refine CmpW.T ?_
    rw [if_pos hkb] at hS
    refine gos ?_
    refine DrawW.L ?_
    (repeat (first | refine gof ?_ | refine fun (vv : Nat) => ?_))
    refine And.intro (And.intro (by omega) (by first | (rw [rgs_len]; omega) | (simp only [List.length_set]; rw [rgs_len]; omega))) ?_
    (repeat (first | refine gof ?_ | refine fun (vv : Nat) => ?_))
    refine ⟨encG dd[k + 1]!, rgs_get (by omega), ?_⟩
    (repeat (first | refine gof ?_ | refine fun (vv : Nat) => ?_))
    simp only [show ((k + 1 : Nat) : Int) - 1 = (k : Int) by omega]
    refine And.intro (And.intro (by omega) (by first | (rw [rgs_len]; omega) | (simp only [List.length_set]; rw [rgs_len]; omega))) ?_
    (repeat (first | refine gof ?_ | refine fun (vv : Nat) => ?_))
    refine ⟨encG dd[k]!, rgs_get (by omega), ?_⟩
    (repeat (first | refine gof ?_ | refine fun (vv : Nat) => ?_))
    refine CallW.pure (cmpR_does dd[k + 1]! dd[k]!) rfl rfl ?_
    (repeat (first | refine gof ?_ | refine fun (vv : Nat) => ?_))
    cases hc : ltR dd[k + 1]! dd[k]! with
    | false =>
      refine CmpW.f (ltR_f hc) ?_
      rw [if_pos (by simp [hc])] at hS
      subst hS
      refine gos ?_
      refine AC.go tab ?_
      refine gos ?_
      exact ⟨f - 1, _, 1, by omega, fgts, s + 1, k0, d4, by omega, by omega, by omega, by omega, hsd4, by rw [e5]; exact hRR, rfl, rfl⟩
    | true =>
      refine CmpW.t (ltR_t hc) ?_
      rw [if_neg (by simp [hc])] at hS
      refine gos ?_
      refine DrawW.L ?_
      (repeat (first | refine gof ?_ | refine fun (vv : Nat) => ?_))
      simp only [show ((k + 1 : Nat) : Int) - 1 = (k : Int) by omega]
      refine And.intro (And.intro (by omega) (by first | (rw [rgs_len]; omega) | (simp only [List.length_set]; rw [rgs_len]; omega))) ?_
      (repeat (first | refine gof ?_ | refine fun (vv : Nat) => ?_))
      refine ⟨encG dd[k]!, rgs_get (by omega), ?_⟩
      (repeat (first | refine gof ?_ | refine fun (vv : Nat) => ?_))
      refine And.intro (And.intro (by omega) (by first | (rw [rgs_len]; omega) | (simp only [List.length_set]; rw [rgs_len]; omega))) ?_
      (repeat (first | refine gof ?_ | refine fun (vv : Nat) => ?_))
      refine ⟨encG dd[k + 1]!, rgs_get (by omega), ?_⟩
      (repeat (first | refine gof ?_ | refine fun (vv : Nat) => ?_))
      refine And.intro (And.intro (by omega) (by first | (rw [rgs_len]; omega) | (simp only [List.length_set]; rw [rgs_len]; omega))) ?_
      (repeat (first | refine gof ?_ | refine fun (vv : Nat) => ?_))
      refine ⟨encG dd[k + 1]!, rgs_get (by omega), ?_⟩
      (repeat (first | refine gof ?_ | refine fun (vv : Nat) => ?_))
      refine And.intro (And.intro (by omega) (by first | (rw [rgs_len]; omega) | (simp only [List.length_set]; rw [rgs_len]; omega))) ?_
      (repeat (first | refine gof ?_ | refine fun (vv : Nat) => ?_))
      refine ⟨encG dd[k]!, swp_mid (by omega) (by omega), ?_⟩
      (repeat (first | refine gof ?_ | refine fun (vv : Nat) => ?_))
      exact ⟨g - 1, _, 1, by omega, fgts, k + 1 + 1, Sort.swp dd (k + 1) k, by omega, by omega, by omega, by rw [swp_size]; exact hsdd, hS, rfl, congrArg (fun es => [some (⟨ver, 121, 2, es⟩ : AObj)]) (swp_enc (by omega) (by omega))⟩
  rintro e h ⟨hR2, rfl, rfl⟩
  rw [hR2]
  refine AC.go tab ?_
  refine gos ?_
  refine RetW.plain (by simp) ?_
  exact ⟨rfl, rfl⟩
end Go.Proofs.YtjjppmbojcgdgaaGreatDoor
