/- Sorting ranges: partition. -/
import Derived.Test.YtjjppmbojcgdgaaGreatDoorJ03
import Derived.Test.YtjjppmbojcgdgaaGreatDoorJ01
set_option linter.unusedVariables false
set_option linter.unusedSimpArgs false
set_option maxRecDepth 100000
set_option maxHeartbeats 4000000

namespace Go.Proofs.YtjjppmbojcgdgaaGreatDoor
open Go Go.Abs
attribute [local irreducible] DrawW CallW RetW AC Does CmpW
variable {G : Globs}
theorem partL (a i j : Nat) (d : Array Rg) (i2 j2 : Nat) (h1 : i2 = Sort.scanUp (fun x => ltR x d[a]!) d j i) (h2 : j2 = Sort.scanDown (fun x => !ltR x d[a]!) d i2 j) :
    Sort.partLoop ltR a i j d = if i2 > j2 then (j2, d) else if (j2 - 1) + 1 - (i2 + 1) < j + 1 - i then Sort.partLoop ltR a (i2 + 1) (j2 - 1) (Sort.swp d i2 j2) else (j2, d) := by
  subst h1
  subst h2
  conv => lhs; unfold Sort.partLoop
  simp only [dite_eq_ite]
theorem swp_mid {ver : Nat} {d : Array Rg} {i j : Nat} (hi : i < d.size) (hj : j < d.size) : ((rgs ver d).es.set i (encG d[j]!))[j]? = some (encG d[j]!) := by
  by_cases h : i = j
  · subst h; rw [List.getElem?_set_self (by rw [rgs_len]; omega)]
  · rw [List.getElem?_set_ne (by omega)]; exact rgs_get hj
theorem up_t {p : Rg → Bool} {d : Array Rg} {j i : Nat} (h : i ≤ j) (hp : p d[i]! = true) : Sort.scanUp p d j i = Sort.scanUp p d j (i + 1) := by
  conv => lhs; unfold Sort.scanUp
  rw [if_pos (by simp [h, hp])]
theorem up_f {p : Rg → Bool} {d : Array Rg} {j i : Nat} (h : (decide (i ≤ j) && p d[i]!) = false) : Sort.scanUp p d j i = i := by
  unfold Sort.scanUp
  rw [if_neg (by simpa using h)]
theorem up_le1 (p : Rg → Bool) (d : Array Rg) (j : Nat) : ∀ n i, j + 1 - i ≤ n → i ≤ Sort.scanUp p d j i ∧ (Sort.scanUp p d j i ≤ i ∨ Sort.scanUp p d j i ≤ j + 1) := by
  intro n
  induction n with
  | zero => intro i h; rw [up_f (by simp; omega)]; omega
  | succ n ih =>
    intro i h
    by_cases hc : (decide (i ≤ j) && p d[i]!) = true
    · have h2 : i ≤ j ∧ p d[i]! = true := by simpa using hc
      rw [up_t h2.1 h2.2]
      have := ih (i + 1) (by omega)
      omega
    · rw [up_f (by simpa using hc)]; omega
theorem up_le (p : Rg → Bool) (d : Array Rg) (j i : Nat) : i ≤ Sort.scanUp p d j i ∧ (Sort.scanUp p d j i ≤ i ∨ Sort.scanUp p d j i ≤ j + 1) := up_le1 p d j _ i (Nat.le_refl _)
theorem dn_t {p : Rg → Bool} {d : Array Rg} {i k : Nat} (h : i ≤ k + 1) (hp : p d[k + 1]! = true) : Sort.scanDown p d i (k + 1) = Sort.scanDown p d i k := by
  conv => lhs; unfold Sort.scanDown
  rw [if_pos (by simp [h, hp])]
theorem dn_f {p : Rg → Bool} {d : Array Rg} {i k : Nat} (h : p d[k + 1]! = false) : Sort.scanDown p d i (k + 1) = k + 1 := by
  unfold Sort.scanDown
  rw [if_neg (by simp [h])]
theorem dn_g {p : Rg → Bool} {d : Array Rg} {i j : Nat} (h : ¬ i ≤ j) : Sort.scanDown p d i j = j := by
  cases j with
  | zero => rfl
  | succ k => unfold Sort.scanDown; rw [if_neg (by simp; omega)]
theorem dn_le (p : Rg → Bool) (d : Array Rg) (i : Nat) : ∀ j, Sort.scanDown p d i j ≤ j := by
  intro j
  induction j with
  | zero => exact Nat.le_refl _
  | succ k ih =>
    unfold Sort.scanDown
    split
    · omega
    · exact Nat.le_refl _
theorem parR_does (d : Array Rg) (a b pivot ver : Nat) (hab : a < b) (hb : b ≤ d.size) (hp : pivot < d.size) (hs : d.size < 1000000) :
    Does Tryz.prog G 220 [.sl 0 ver, .int .i64 a, .int .i64 b, .int .i64 pivot, cmpV] [some (rgs ver d)] fun ae O =>
      ae = .ret (.tuple [.int .i64 (Sort.partition ltR d a b pivot).1, .bool (Sort.partition ltR d a b pivot).2.1]) ∧ O = [some (rgs ver (Sort.partition ltR d a b pivot).2.2)] := by
  refine Does.bodyA tab Tryz.func220 rfl rfl ?_
  refine AC.step tab ?_
  refine gos ?_
  obtain ⟨d1, hd1⟩ : ∃ x, x = Sort.swp d a pivot := ⟨_, rfl⟩
  have hsd1 : d1.size = d.size := by rw [hd1, swp_size]
  refine AC.cutF tab (fun e h => e = [.sl 0 ver, .int .i64 a, .int .i64 b, .any, cmpV, .any, .any, .any, .any, .any, .any, .any, .any, .any] ++ List.replicate 164 .any ∧ h = [some (rgs ver d1)]) ?_ ?_
  · rw [hd1]
    refine gos ?_
    refine DrawW.L ?_
    (repeat (first | refine gof ?_ | refine fun (vv : Nat) => ?_))
    refine And.intro (And.intro (by omega) (by first | (rw [rgs_len]; omega) | (simp only [List.length_set]; rw [rgs_len]; omega))) ?_
    (repeat (first | refine gof ?_ | refine fun (vv : Nat) => ?_))
    refine ⟨encG d[pivot]!, rgs_get (by omega), ?_⟩
    (repeat (first | refine gof ?_ | refine fun (vv : Nat) => ?_))
    refine And.intro (And.intro (by omega) (by first | (rw [rgs_len]; omega) | (simp only [List.length_set]; rw [rgs_len]; omega))) ?_
    (repeat (first | refine gof ?_ | refine fun (vv : Nat) => ?_))
    refine ⟨encG d[a]!, rgs_get (by omega), ?_⟩
    (repeat (first | refine gof ?_ | refine fun (vv : Nat) => ?_))
    refine And.intro (And.intro (by omega) (by first | (rw [rgs_len]; omega) | (simp only [List.length_set]; rw [rgs_len]; omega))) ?_
    (repeat (first | refine gof ?_ | refine fun (vv : Nat) => ?_))
    refine ⟨encG d[a]!, rgs_get (by omega), ?_⟩
    (repeat (first | refine gof ?_ | refine fun (vv : Nat) => ?_))
    refine And.intro (And.intro (by omega) (by first | (rw [rgs_len]; omega) | (simp only [List.length_set]; rw [rgs_len]; omega))) ?_
    (repeat (first | refine gof ?_ | refine fun (vv : Nat) => ?_))
    refine ⟨encG d[pivot]!, swp_mid (by omega) (by omega), ?_⟩
    (repeat (first | refine gof ?_ | refine fun (vv : Nat) => ?_))
    exact ⟨_, 1, fgts, rfl, congrArg (fun es => [some (⟨ver, 121, 2, es⟩ : AObj)]) (swp_enc (by omega) (by omega))⟩
  rintro e h ⟨rfl, rfl⟩
  refine AC.step tab ?_
  refine gos ?_
  simp only [show (b : Int) - 1 = ((b - 1 : Nat) : Int) by omega, show (a : Int) + 1 = ((a + 1 : Nat) : Int) by omega]
  obtain ⟨u, hu⟩ : ∃ u, u = Sort.scanUp (fun x => ltR x d1[a]!) d1 (b - 1) (a + 1) := ⟨_, rfl⟩
  have hul := up_le (fun x => ltR x d1[a]!) d1 (b - 1) (a + 1)
  rw [← hu] at hul
  refine AC.cutF tab (fun e h => e = [.sl 0 ver, .int .i64 a, .any, .any, cmpV, .any, .any, .any, .any, .any, .any, .any, .int .i64 u, .int .i64 (((b - 1) : Nat) : Int)] ++ List.replicate 164 .any ∧ h = [some (rgs ver d1)]) ?_ ?_
  · refine AC.loopC tab (fun f e h => ∃ i', (b - 1) + 1 < f + i' ∧ (a + 1) ≤ i' ∧ u = Sort.scanUp (fun x => ltR x d1[a]!) d1 (b - 1) i' ∧ e = [.sl 0 ver, .int .i64 a, .any, .any, cmpV, .any, .any, .any, .any, .any, .any, .any, .int .i64 i', .int .i64 (((b - 1) : Nat) : Int)] ++ List.replicate 164 .any ∧ h = [some (rgs ver d1)])
      ((b - 1) + 2) ⟨_, fgts, (a + 1), by omega, by omega, hu, rfl, rfl⟩ ?_
    rintro f e h ⟨i', hf, hi, hS, rfl, rfl⟩
    refine gos ?_
    refine DrawW.L ?_
    (repeat (first | refine gof ?_ | refine fun (vv : Nat) => ?_))
    by_cases hij : i' ≤ (b - 1)
    · refine CmpW.T ?_
      (repeat (first | refine gof ?_ | refine fun (vv : Nat) => ?_))
      refine And.intro (And.intro (by omega) (by first | (rw [rgs_len]; omega) | (simp only [List.length_set]; rw [rgs_len]; omega))) ?_
      (repeat (first | refine gof ?_ | refine fun (vv : Nat) => ?_))
      refine ⟨encG d1[i']!, rgs_get (by omega), ?_⟩
      (repeat (first | refine gof ?_ | refine fun (vv : Nat) => ?_))
      refine And.intro (And.intro (by omega) (by first | (rw [rgs_len]; omega) | (simp only [List.length_set]; rw [rgs_len]; omega))) ?_
      (repeat (first | refine gof ?_ | refine fun (vv : Nat) => ?_))
      refine ⟨encG d1[a]!, rgs_get (by omega), ?_⟩
      (repeat (first | refine gof ?_ | refine fun (vv : Nat) => ?_))
      refine CallW.pure (cmpR_does d1[i']! d1[a]!) rfl rfl ?_
      (repeat (first | refine gof ?_ | refine fun (vv : Nat) => ?_))
      cases hc : ltR d1[i']! d1[a]! with
      | true =>
        refine CmpW.t (ltR_t hc) ?_
        refine gos ?_
        rw [up_t hij (by simp [hc])] at hS
        exact ⟨f - 1, _, 1, by omega, fgts, i' + 1, by omega, by omega, hS, rfl, rfl⟩
      | false =>
        refine CmpW.f (ltR_f hc) ?_
        refine gos ?_
        rw [up_f (by simp [hc])] at hS
        subst hS
        exact ⟨_, 1, fgts, rfl, rfl⟩
    · refine CmpW.N ?_
      refine gos ?_
      rw [up_f (by simp [hij])] at hS
      subst hS
      exact ⟨_, 1, fgts, rfl, rfl⟩
  rintro e h ⟨rfl, rfl⟩
  obtain ⟨w, hw⟩ : ∃ w, w = Sort.scanDown (fun x => !ltR x d1[a]!) d1 u (b - 1) := ⟨_, rfl⟩
  have hwl := dn_le (fun x => !ltR x d1[a]!) d1 u (b - 1)
  rw [← hw] at hwl
  refine AC.cutF tab (fun e h => e = [.sl 0 ver, .int .i64 a, .any, .any, cmpV, .any, .any, .any, .any, .any, .any, .any, .int .i64 u, .int .i64 w] ++ List.replicate 164 .any ∧ h = [some (rgs ver d1)]) ?_ ?_
  · refine AC.loopC tab (fun f e h => ∃ j', j' < f ∧ j' ≤ (b - 1) ∧ w = Sort.scanDown (fun x => !ltR x d1[a]!) d1 u j' ∧ e = [.sl 0 ver, .int .i64 a, .any, .any, cmpV, .any, .any, .any, .any, .any, .any, .any, .int .i64 u, .int .i64 j'] ++ List.replicate 164 .any ∧ h = [some (rgs ver d1)])
      ((b - 1) + 1) ⟨_, fgts, (b - 1), by omega, by omega, hw, rfl, rfl⟩ ?_
    rintro f e h ⟨j', hf, hj, hS, rfl, rfl⟩
    refine gos ?_
    refine DrawW.L ?_
    (repeat (first | refine gof ?_ | refine fun (vv : Nat) => ?_))
    by_cases hij : u ≤ j'
    · obtain ⟨k, rfl⟩ : ∃ k, j' = k + 1 := ⟨j' - 1, by omega⟩
      refine CmpW.T ?_
      (repeat (first | refine gof ?_ | refine fun (vv : Nat) => ?_))
      refine And.intro (And.intro (by omega) (by first | (rw [rgs_len]; omega) | (simp only [List.length_set]; rw [rgs_len]; omega))) ?_
      (repeat (first | refine gof ?_ | refine fun (vv : Nat) => ?_))
      refine ⟨encG d1[k + 1]!, rgs_get (by omega), ?_⟩
      (repeat (first | refine gof ?_ | refine fun (vv : Nat) => ?_))
      refine And.intro (And.intro (by omega) (by first | (rw [rgs_len]; omega) | (simp only [List.length_set]; rw [rgs_len]; omega))) ?_
      (repeat (first | refine gof ?_ | refine fun (vv : Nat) => ?_))
      refine ⟨encG d1[a]!, rgs_get (by omega), ?_⟩
      (repeat (first | refine gof ?_ | refine fun (vv : Nat) => ?_))
      refine CallW.pure (cmpR_does d1[k + 1]! d1[a]!) rfl rfl ?_
      (repeat (first | refine gof ?_ | refine fun (vv : Nat) => ?_))
      cases hc : ltR d1[k + 1]! d1[a]! with
      | false =>
        refine CmpW.f (ltR_f hc) ?_
        refine gos ?_
        simp only [show ((k + 1 : Nat) : Int) - 1 = (k : Int) by omega]
        rw [dn_t hij (by simp [hc])] at hS
        exact ⟨f - 1, _, 1, by omega, fgts, k, by omega, by omega, hS, rfl, rfl⟩
      | true =>
        refine CmpW.t (ltR_t hc) ?_
        refine gos ?_
        rw [dn_f (by simp [hc])] at hS
        subst hS
        exact ⟨_, 1, fgts, rfl, rfl⟩
    · refine CmpW.N ?_
      refine gos ?_
      rw [dn_g (by omega)] at hS
      subst hS
      exact ⟨_, 1, fgts, rfl, rfl⟩
  rintro e h ⟨rfl, rfl⟩
  have hP : Sort.partition ltR d a b pivot = if u > w then (w, true, Sort.swp d1 w a) else ((Sort.partLoop ltR a (u + 1) (w - 1) (Sort.swp d1 u w)).1, false, Sort.swp (Sort.partLoop ltR a (u + 1) (w - 1) (Sort.swp d1 u w)).2 (Sort.partLoop ltR a (u + 1) (w - 1) (Sort.swp d1 u w)).1 a) := by
    unfold Sort.partition
    simp only [← hd1, ← hu, ← hw]
  refine AC.step tab ?_
  refine gos ?_
  by_cases hwu : w < u
  · refine CmpW.T ?_
    rw [hP, if_pos hwu]
    refine gos ?_
    refine DrawW.L ?_
    (repeat (first | refine gof ?_ | refine fun (vv : Nat) => ?_))
    refine And.intro (And.intro (by omega) (by first | (rw [rgs_len]; omega) | (simp only [List.length_set]; rw [rgs_len]; omega))) ?_
    (repeat (first | refine gof ?_ | refine fun (vv : Nat) => ?_))
    refine ⟨encG d1[a]!, rgs_get (by omega), ?_⟩
    (repeat (first | refine gof ?_ | refine fun (vv : Nat) => ?_))
    refine And.intro (And.intro (by omega) (by first | (rw [rgs_len]; omega) | (simp only [List.length_set]; rw [rgs_len]; omega))) ?_
    (repeat (first | refine gof ?_ | refine fun (vv : Nat) => ?_))
    refine ⟨encG d1[w]!, rgs_get (by omega), ?_⟩
    (repeat (first | refine gof ?_ | refine fun (vv : Nat) => ?_))
    refine And.intro (And.intro (by omega) (by first | (rw [rgs_len]; omega) | (simp only [List.length_set]; rw [rgs_len]; omega))) ?_
    (repeat (first | refine gof ?_ | refine fun (vv : Nat) => ?_))
    refine ⟨encG d1[w]!, rgs_get (by omega), ?_⟩
    (repeat (first | refine gof ?_ | refine fun (vv : Nat) => ?_))
    refine And.intro (And.intro (by omega) (by first | (rw [rgs_len]; omega) | (simp only [List.length_set]; rw [rgs_len]; omega))) ?_
    (repeat (first | refine gof ?_ | refine fun (vv : Nat) => ?_))
    refine ⟨encG d1[a]!, swp_mid (by omega) (by omega), ?_⟩
    (repeat (first | refine gof ?_ | refine fun (vv : Nat) => ?_))
    refine RetW.plain (by simp) ?_
    exact ⟨rfl, congrArg (fun es => [some (⟨ver, 121, 2, es⟩ : AObj)]) (swp_enc (by omega) (by omega))⟩
  refine CmpW.N ?_
  rw [hP, if_neg hwu]
  refine gos ?_
  obtain ⟨d2, hd2⟩ : ∃ x, x = Sort.swp d1 u w := ⟨_, rfl⟩
  have hsd2 : d2.size = d.size := by rw [hd2, swp_size]; exact hsd1
  refine AC.cutF tab (fun e h => e = [.sl 0 ver, .int .i64 a, .any, .any, cmpV, .any, .any, .any, .any, .any, .any, .any, .int .i64 u, .int .i64 w] ++ List.replicate 164 .any ∧ h = [some (rgs ver d2)]) ?_ ?_
  · rw [hd2]
    refine gos ?_
    refine DrawW.L ?_
    (repeat (first | refine gof ?_ | refine fun (vv : Nat) => ?_))
    refine And.intro (And.intro (by omega) (by first | (rw [rgs_len]; omega) | (simp only [List.length_set]; rw [rgs_len]; omega))) ?_
    (repeat (first | refine gof ?_ | refine fun (vv : Nat) => ?_))
    refine ⟨encG d1[w]!, rgs_get (by omega), ?_⟩
    (repeat (first | refine gof ?_ | refine fun (vv : Nat) => ?_))
    refine And.intro (And.intro (by omega) (by first | (rw [rgs_len]; omega) | (simp only [List.length_set]; rw [rgs_len]; omega))) ?_
    (repeat (first | refine gof ?_ | refine fun (vv : Nat) => ?_))
    refine ⟨encG d1[u]!, rgs_get (by omega), ?_⟩
    (repeat (first | refine gof ?_ | refine fun (vv : Nat) => ?_))
    refine And.intro (And.intro (by omega) (by first | (rw [rgs_len]; omega) | (simp only [List.length_set]; rw [rgs_len]; omega))) ?_
    (repeat (first | refine gof ?_ | refine fun (vv : Nat) => ?_))
    refine ⟨encG d1[u]!, rgs_get (by omega), ?_⟩
    (repeat (first | refine gof ?_ | refine fun (vv : Nat) => ?_))
    refine And.intro (And.intro (by omega) (by first | (rw [rgs_len]; omega) | (simp only [List.length_set]; rw [rgs_len]; omega))) ?_
    (repeat (first | refine gof ?_ | refine fun (vv : Nat) => ?_))
    refine ⟨encG d1[w]!, swp_mid (by omega) (by omega), ?_⟩
    (repeat (first | refine gof ?_ | refine fun (vv : Nat) => ?_))
    exact ⟨_, 1, fgts, rfl, congrArg (fun es => [some (⟨ver, 121, 2, es⟩ : AObj)]) (swp_enc (by omega) (by omega))⟩
  rintro e h ⟨rfl, rfl⟩
  refine AC.step tab ?_
  refine gos ?_
  refine AC.step tab ?_
  refine gos ?_
  simp only [show (w : Int) - 1 = ((w - 1 : Nat) : Int) by omega, show (u : Int) + 1 = ((u + 1 : Nat) : Int) by omega]
  obtain ⟨R, hR⟩ : ∃ R, R = Sort.partLoop ltR a (u + 1) (w - 1) d2 := ⟨_, rfl⟩
  simp only [← hd2, ← hR]
  refine AC.cutF tab (fun e h => R.1 < d.size ∧ R.2.size = d.size ∧ e = [.sl 0 ver, .int .i64 a, .any, .any, cmpV, .any, .any, .any, .any, .any, .any, .any, .any, .int .i64 R.1] ++ List.replicate 164 .any ∧ h = [some (rgs ver R.2)]) ?_ ?_
  · refine AC.loopA (fun f e h => ∃ (i j : Nat) (d' : Array Rg), j + 1 < f + i ∧ a < i ∧ j < d.size ∧ d'.size = d.size ∧ R = Sort.partLoop ltR a i j d' ∧ e = [.sl 0 ver, .int .i64 a, .any, .any, cmpV, .any, .any, .any, .any, .any, .any, .any, .int .i64 i, .int .i64 j] ++ List.replicate 164 .any ∧ h = [some (rgs ver d')])
      (w + 1) ⟨_, fgts, u + 1, w - 1, d2, by omega, by omega, by omega, by omega, hR, rfl, rfl⟩ ?_
    rintro f e h ⟨i, j, d', hf, hi, hj, hsd', hRR, rfl, rfl⟩
    refine AC.blk ?_
    obtain ⟨u2, hu2⟩ : ∃ u, u = Sort.scanUp (fun x => ltR x d'[a]!) d' j i := ⟨_, rfl⟩
    have hu2l := up_le (fun x => ltR x d'[a]!) d' j i
    rw [← hu2] at hu2l
    refine AC.cutF tab (fun e h => e = [.sl 0 ver, .int .i64 a, .any, .any, cmpV, .any, .any, .any, .any, .any, .any, .any, .int .i64 u2, .int .i64 j] ++ List.replicate 164 .any ∧ h = [some (rgs ver d')]) ?_ ?_
    · refine AC.loopC tab (fun f e h => ∃ i', j + 1 < f + i' ∧ i ≤ i' ∧ u2 = Sort.scanUp (fun x => ltR x d'[a]!) d' j i' ∧ e = [.sl 0 ver, .int .i64 a, .any, .any, cmpV, .any, .any, .any, .any, .any, .any, .any, .int .i64 i', .int .i64 j] ++ List.replicate 164 .any ∧ h = [some (rgs ver d')])
        (j + 2) ⟨_, fgts, i, by omega, by omega, hu2, rfl, rfl⟩ ?_
      rintro f e h ⟨i', hf, hi, hS, rfl, rfl⟩
      refine gos ?_
      refine DrawW.L ?_
      (repeat (first | refine gof ?_ | refine fun (vv : Nat) => ?_))
      by_cases hij : i' ≤ j
      · refine CmpW.T ?_
        (repeat (first | refine gof ?_ | refine fun (vv : Nat) => ?_))
        refine And.intro (And.intro (by omega) (by first | (rw [rgs_len]; omega) | (simp only [List.length_set]; rw [rgs_len]; omega))) ?_
        (repeat (first | refine gof ?_ | refine fun (vv : Nat) => ?_))
        refine ⟨encG d'[i']!, rgs_get (by omega), ?_⟩
        (repeat (first | refine gof ?_ | refine fun (vv : Nat) => ?_))
        refine And.intro (And.intro (by omega) (by first | (rw [rgs_len]; omega) | (simp only [List.length_set]; rw [rgs_len]; omega))) ?_
        (repeat (first | refine gof ?_ | refine fun (vv : Nat) => ?_))
        refine ⟨encG d'[a]!, rgs_get (by omega), ?_⟩
        (repeat (first | refine gof ?_ | refine fun (vv : Nat) => ?_))
        refine CallW.pure (cmpR_does d'[i']! d'[a]!) rfl rfl ?_
        (repeat (first | refine gof ?_ | refine fun (vv : Nat) => ?_))
        cases hc : ltR d'[i']! d'[a]! with
        | true =>
          refine CmpW.t (ltR_t hc) ?_
          refine gos ?_
          rw [up_t hij (by simp [hc])] at hS
          exact ⟨f - 1, _, 1, by omega, fgts, i' + 1, by omega, by omega, hS, rfl, rfl⟩
        | false =>
          refine CmpW.f (ltR_f hc) ?_
          refine gos ?_
          rw [up_f (by simp [hc])] at hS
          subst hS
          exact ⟨_, 1, fgts, rfl, rfl⟩
      · refine CmpW.N ?_
        refine gos ?_
        rw [up_f (by simp [hij])] at hS
        subst hS
        exact ⟨_, 1, fgts, rfl, rfl⟩
    rintro e h ⟨rfl, rfl⟩
    obtain ⟨w2, hw2⟩ : ∃ w, w = Sort.scanDown (fun x => !ltR x d'[a]!) d' u2 j := ⟨_, rfl⟩
    have hw2l := dn_le (fun x => !ltR x d'[a]!) d' u2 j
    rw [← hw2] at hw2l
    refine AC.cutF tab (fun e h => e = [.sl 0 ver, .int .i64 a, .any, .any, cmpV, .any, .any, .any, .any, .any, .any, .any, .int .i64 u2, .int .i64 w2] ++ List.replicate 164 .any ∧ h = [some (rgs ver d')]) ?_ ?_
    · refine AC.loopC tab (fun f e h => ∃ j', j' < f ∧ j' ≤ j ∧ w2 = Sort.scanDown (fun x => !ltR x d'[a]!) d' u2 j' ∧ e = [.sl 0 ver, .int .i64 a, .any, .any, cmpV, .any, .any, .any, .any, .any, .any, .any, .int .i64 u2, .int .i64 j'] ++ List.replicate 164 .any ∧ h = [some (rgs ver d')])
        (j + 1) ⟨_, fgts, j, by omega, by omega, hw2, rfl, rfl⟩ ?_
      rintro f e h ⟨j', hf, hj, hS, rfl, rfl⟩
      refine gos ?_
      refine DrawW.L ?_
      (repeat (first | refine gof ?_ | refine fun (vv : Nat) => ?_))
      by_cases hij : u2 ≤ j'
      · obtain ⟨k, rfl⟩ : ∃ k, j' = k + 1 := ⟨j' - 1, by omega⟩
        refine CmpW.T ?_
        (repeat (first | refine gof ?_ | refine fun (vv : Nat) => ?_))
        refine And.intro (And.intro (by omega) (by first | (rw [rgs_len]; omega) | (simp only [List.length_set]; rw [rgs_len]; omega))) ?_
        (repeat (first | refine gof ?_ | refine fun (vv : Nat) => ?_))
        refine ⟨encG d'[k + 1]!, rgs_get (by omega), ?_⟩
        (repeat (first | refine gof ?_ | refine fun (vv : Nat) => ?_))
        refine And.intro (And.intro (by omega) (by first | (rw [rgs_len]; omega) | (simp only [List.length_set]; rw [rgs_len]; omega))) ?_
        (repeat (first | refine gof ?_ | refine fun (vv : Nat) => ?_))
        refine ⟨encG d'[a]!, rgs_get (by omega), ?_⟩
        (repeat (first | refine gof ?_ | refine fun (vv : Nat) => ?_))
        refine CallW.pure (cmpR_does d'[k + 1]! d'[a]!) rfl rfl ?_
        (repeat (first | refine gof ?_ | refine fun (vv : Nat) => ?_))
        cases hc : ltR d'[k + 1]! d'[a]! with
        | false =>
          refine CmpW.f (ltR_f hc) ?_
          refine gos ?_
          simp only [show ((k + 1 : Nat) : Int) - 1 = (k : Int) by omega]
          rw [dn_t hij (by simp [hc])] at hS
          exact ⟨f - 1, _, 1, by omega, fgts, k, by omega, by omega, hS, rfl, rfl⟩
        | true =>
          refine CmpW.t (ltR_t hc) ?_
          refine gos ?_
          rw [dn_f (by simp [hc])] at hS
          subst hS
          exact ⟨_, 1, fgts, rfl, rfl⟩
      · refine CmpW.N ?_
        refine gos ?_
        rw [dn_g (by omega)] at hS
        subst hS
        exact ⟨_, 1, fgts, rfl, rfl⟩
    rintro e h ⟨rfl, rfl⟩
    rw [partL a i j d' u2 w2 hu2 hw2] at hRR
    refine AC.step tab ?_
    refine gos ?_
    by_cases hwu2 : w2 < u2
    · refine CmpW.T ?_
      rw [if_pos hwu2] at hRR
      subst hRR
      refine gos ?_
      exact ⟨_, 1, fgts, by show w2 < _; omega, hsd', rfl, rfl⟩
    refine CmpW.N ?_
    rw [if_neg hwu2, if_pos (by omega)] at hRR
    refine gos ?_
    obtain ⟨d3, hd3⟩ : ∃ x, x = Sort.swp d' u2 w2 := ⟨_, rfl⟩
    have hsd3 : d3.size = d.size := by rw [hd3, swp_size]; exact hsd'
    refine AC.cutF tab (fun e h => e = [.sl 0 ver, .int .i64 a, .any, .any, cmpV, .any, .any, .any, .any, .any, .any, .any, .int .i64 u2, .int .i64 w2] ++ List.replicate 164 .any ∧ h = [some (rgs ver d3)]) ?_ ?_
    · rw [hd3]
      refine gos ?_
      refine DrawW.L ?_
      (repeat (first | refine gof ?_ | refine fun (vv : Nat) => ?_))
      refine And.intro (And.intro (by omega) (by first | (rw [rgs_len]; omega) | (simp only [List.length_set]; rw [rgs_len]; omega))) ?_
      (repeat (first | refine gof ?_ | refine fun (vv : Nat) => ?_))
      refine ⟨encG d'[w2]!, rgs_get (by omega), ?_⟩
      (repeat (first | refine gof ?_ | refine fun (vv : Nat) => ?_))
      refine And.intro (And.intro (by omega) (by first | (rw [rgs_len]; omega) | (simp only [List.length_set]; rw [rgs_len]; omega))) ?_
      (repeat (first | refine gof ?_ | refine fun (vv : Nat) => ?_))
      refine ⟨encG d'[u2]!, rgs_get (by omega), ?_⟩
      (repeat (first | refine gof ?_ | refine fun (vv : Nat) => ?_))
      refine And.intro (And.intro (by omega) (by first | (rw [rgs_len]; omega) | (simp only [List.length_set]; rw [rgs_len]; omega))) ?_
      (repeat (first | refine gof ?_ | refine fun (vv : Nat) => ?_))
      refine ⟨encG d'[u2]!, rgs_get (by omega), ?_⟩
      (repeat (first | refine gof ?_ | refine fun (vv : Nat) => ?_))
      refine And.intro (And.intro (by omega) (by first | (rw [rgs_len]; omega) | (simp only [List.length_set]; rw [rgs_len]; omega))) ?_
      (repeat (first | refine gof ?_ | refine fun (vv : Nat) => ?_))
      refine ⟨encG d'[w2]!, swp_mid (by omega) (by omega), ?_⟩
      (repeat (first | refine gof ?_ | refine fun (vv : Nat) => ?_))
      exact ⟨_, 1, fgts, rfl, congrArg (fun es => [some (⟨ver, 121, 2, es⟩ : AObj)]) (swp_enc (by omega) (by omega))⟩
    rintro e h ⟨rfl, rfl⟩
    rw [← hd3] at hRR
    refine AC.step tab ?_
    refine gos ?_
    refine AC.go tab ?_
    refine gos ?_
    simp only [show (w2 : Int) - 1 = ((w2 - 1 : Nat) : Int) by omega, show (u2 : Int) + 1 = ((u2 + 1 : Nat) : Int) by omega]
    exact ⟨f - 1, _, 1, by omega, fgts, u2 + 1, w2 - 1, d3, by omega, by omega, by omega, hsd3, hRR, rfl, rfl⟩
  rintro e h ⟨hR1, hR2, rfl, rfl⟩
  refine AC.step tab ?_
  refine gos ?_
  refine DrawW.L ?_
  (repeat (first | refine gof ?_ | refine fun (vv : Nat) => ?_))
  refine And.intro (And.intro (by omega) (by first | (rw [rgs_len]; omega) | (simp only [List.length_set]; rw [rgs_len]; omega))) ?_
  (repeat (first | refine gof ?_ | refine fun (vv : Nat) => ?_))
  refine ⟨encG R.2[a]!, rgs_get (by omega), ?_⟩
  (repeat (first | refine gof ?_ | refine fun (vv : Nat) => ?_))
  refine And.intro (And.intro (by omega) (by first | (rw [rgs_len]; omega) | (simp only [List.length_set]; rw [rgs_len]; omega))) ?_
  (repeat (first | refine gof ?_ | refine fun (vv : Nat) => ?_))
  refine ⟨encG R.2[R.1]!, rgs_get (by omega), ?_⟩
  (repeat (first | refine gof ?_ | refine fun (vv : Nat) => ?_))
  refine And.intro (And.intro (by omega) (by first | (rw [rgs_len]; omega) | (simp only [List.length_set]; rw [rgs_len]; omega))) ?_
  (repeat (first | refine gof ?_ | refine fun (vv : Nat) => ?_))
  refine ⟨encG R.2[R.1]!, rgs_get (by omega), ?_⟩
  (repeat (first | refine gof ?_ | refine fun (vv : Nat) => ?_))
  refine And.intro (And.intro (by omega) (by first | (rw [rgs_len]; omega) | (simp only [List.length_set]; rw [rgs_len]; omega))) ?_
  (repeat (first | refine gof ?_ | refine fun (vv : Nat) => ?_))
  refine ⟨encG R.2[a]!, swp_mid (by omega) (by omega), ?_⟩
  (repeat (first | refine gof ?_ | refine fun (vv : Nat) => ?_))
  refine AC.go tab ?_
  refine gos ?_
  refine RetW.plain (by simp) ?_
  exact ⟨rfl, congrArg (fun es => [some (⟨ver, 121, 2, es⟩ : AObj)]) (swp_enc (by omega) (by omega))⟩
end Go.Proofs.YtjjppmbojcgdgaaGreatDoor
