/- Sorting ranges: the pivot's choice. -/
import Derived.Test.YtjjppmbojcgdgaaGreatDoorJ01
set_option linter.unusedVariables false
set_option linter.unusedSimpArgs false
set_option maxRecDepth 100000
set_option maxHeartbeats 4000000

namespace Go.Proofs.YtjjppmbojcgdgaaGreatDoor
open Go Go.Abs
attribute [local irreducible] DrawW CallW RetW AC Does CmpW
variable {G : Globs}
theorem ltR_t {a b : Rg} (h : ltR a b = true) : decide ((a.1.val : Int) - (b.1.val : Int) < 0) = true := by rw [decide_eq_true_eq]; exact (ltR_iff a b).2 h
theorem ltR_f {a b : Rg} (h : ltR a b = false) : decide ((a.1.val : Int) - (b.1.val : Int) < 0) = false := by
  rw [decide_eq_false_iff_not]
  intro h2
  rw [(ltR_iff a b).1 h2] at h
  cases h
theorem sifR_does (d : Array Rg) (root0 hi first ver : Nat) (hh : first + hi ≤ d.size) (hs : d.size < 1000000) (hr : root0 < 1000000) :
    Does Tryz.prog G 264 [.sl 0 ver, .int .i64 root0, .int .i64 hi, .int .i64 first, cmpV] [some (rgs ver d)] fun ae O => ae = .ret (.tuple []) ∧ O = [some (rgs ver (Sort.siftDown ltR hi first root0 d))] := by
  refine Does.body tab Tryz.func264 rfl rfl ?_
  refine gos ?_
  refine AC.loopC tab (fun f e h => ∃ (root : Nat) (d' : Array Rg), hi - root < f ∧ root < 1000000 ∧ d'.size = d.size ∧ Sort.siftDown ltR hi first root0 d = Sort.siftDown ltR hi first root d' ∧ e = [.sl 0 ver, .any, .int .i64 hi, .int .i64 first, cmpV, .any, .any, .any, .any, .any, .int .i64 root] ++ List.replicate 71 .any ∧ h = [some (rgs ver d')])
    (hi + 1) ⟨_, fgts, root0, d, by omega, hr, rfl, rfl, rfl, rfl⟩ ?_
  rintro f e h ⟨root, d', hf, hrt, hd, hF, rfl, rfl⟩
  refine gos ?_
  have hS0 := Sort.siftDown.eq_1 ltR hi first root d'
  by_cases h1 : 2 * root + 1 ≥ hi
  · refine CmpW.T ?_
    refine gos ?_
    refine RetW.plain (by simp) ?_
    rw [hF, hS0, dif_pos h1]
    exact ⟨rfl, rfl⟩
  refine CmpW.N ?_
  rw [dif_neg h1] at hS0
  refine gos ?_
  refine DrawW.L ?_
  (repeat (first | refine gof ?_ | refine fun (vv : Nat) => ?_))
  by_cases h2 : 2 * root + 1 + 1 < hi
  · refine CmpW.T ?_
    (repeat (first | refine gof ?_ | refine fun (vv : Nat) => ?_))
    refine And.intro (And.intro (by omega) (by first | (rw [rgs_len]; omega) | (simp only [List.length_set]; rw [rgs_len]; omega))) ?_
    (repeat (first | refine gof ?_ | refine fun (vv : Nat) => ?_))
    refine ⟨encG d'[first + (2 * root + 1)]!, rgs_get (by omega), ?_⟩
    (repeat (first | refine gof ?_ | refine fun (vv : Nat) => ?_))
    refine And.intro (And.intro (by omega) (by first | (rw [rgs_len]; omega) | (simp only [List.length_set]; rw [rgs_len]; omega))) ?_
    (repeat (first | refine gof ?_ | refine fun (vv : Nat) => ?_))
    refine ⟨encG d'[first + (2 * root + 1) + 1]!, rgs_get (by omega), ?_⟩
    (repeat (first | refine gof ?_ | refine fun (vv : Nat) => ?_))
    refine CallW.pure (cmpR_does d'[first + (2 * root + 1)]! d'[first + (2 * root + 1) + 1]!) rfl rfl ?_
    (repeat (first | refine gof ?_ | refine fun (vv : Nat) => ?_))
    cases h3 : ltR d'[first + (2 * root + 1)]! d'[first + (2 * root + 1) + 1]! with
    | true =>
      refine CmpW.t (ltR_t h3) ?_
      refine gos ?_
      obtain ⟨ch, hch⟩ : ∃ ch, ch = 2 * root + 2 := ⟨_, rfl⟩
      simp only [show (2 * (root : Int) + 1 + 1) = (ch : Int) by omega]
      have hS : Sort.siftDown ltR hi first root d' = if !ltR d'[first + root]! d'[first + ch]! then d' else Sort.siftDown ltR hi first ch (Sort.swp d' (first + root) (first + ch)) := by
        rw [hS0, if_pos (by simp [h2, h3]), hch]
        simp only [dif_pos (show 2 * root + 2 < hi by omega)]
      refine DrawW.L ?_
      (repeat (first | refine gof ?_ | refine fun (vv : Nat) => ?_))
      refine And.intro (And.intro (by omega) (by first | (rw [rgs_len]; omega) | (simp only [List.length_set]; rw [rgs_len]; omega))) ?_
      (repeat (first | refine gof ?_ | refine fun (vv : Nat) => ?_))
      refine ⟨encG d'[first + root]!, rgs_get (by omega), ?_⟩
      (repeat (first | refine gof ?_ | refine fun (vv : Nat) => ?_))
      refine And.intro (And.intro (by omega) (by first | (rw [rgs_len]; omega) | (simp only [List.length_set]; rw [rgs_len]; omega))) ?_
      (repeat (first | refine gof ?_ | refine fun (vv : Nat) => ?_))
      refine ⟨encG d'[first + ch]!, rgs_get (by omega), ?_⟩
      (repeat (first | refine gof ?_ | refine fun (vv : Nat) => ?_))
      refine CallW.pure (cmpR_does d'[first + root]! d'[first + ch]!) rfl rfl ?_
      (repeat (first | refine gof ?_ | refine fun (vv : Nat) => ?_))
      cases hlt : ltR d'[first + root]! d'[first + ch]! with
      | true =>
        refine CmpW.t (ltR_t hlt) ?_
        refine gos ?_
        refine DrawW.L ?_
        (repeat (first | refine gof ?_ | refine fun (vv : Nat) => ?_))
        refine And.intro (And.intro (by omega) (by first | (rw [rgs_len]; omega) | (simp only [List.length_set]; rw [rgs_len]; omega))) ?_
        (repeat (first | refine gof ?_ | refine fun (vv : Nat) => ?_))
        refine ⟨encG d'[first + ch]!, rgs_get (by omega), ?_⟩
        (repeat (first | refine gof ?_ | refine fun (vv : Nat) => ?_))
        refine And.intro (And.intro (by omega) (by first | (rw [rgs_len]; omega) | (simp only [List.length_set]; rw [rgs_len]; omega))) ?_
        (repeat (first | refine gof ?_ | refine fun (vv : Nat) => ?_))
        refine ⟨encG d'[first + root]!, rgs_get (by omega), ?_⟩
        (repeat (first | refine gof ?_ | refine fun (vv : Nat) => ?_))
        refine And.intro (And.intro (by omega) (by first | (rw [rgs_len]; omega) | (simp only [List.length_set]; rw [rgs_len]; omega))) ?_
        (repeat (first | refine gof ?_ | refine fun (vv : Nat) => ?_))
        refine ⟨encG d'[first + root]!, rgs_get (by omega), ?_⟩
        (repeat (first | refine gof ?_ | refine fun (vv : Nat) => ?_))
        refine And.intro (And.intro (by omega) (by first | (rw [rgs_len]; omega) | (simp only [List.length_set]; rw [rgs_len]; omega))) ?_
        (repeat (first | refine gof ?_ | refine fun (vv : Nat) => ?_))
        refine ⟨encG d'[first + ch]!, by show ((rgs ver d').es.set (first + root) _)[first + ch]? = _; rw [List.getElem?_set_ne (by omega)]; exact rgs_get (by omega), ?_⟩
        (repeat (first | refine gof ?_ | refine fun (vv : Nat) => ?_))
        rw [hlt] at hS
        simp only [Bool.not_true, Bool.false_eq_true, if_false] at hS
        exact ⟨f - 1, _, 1, by omega, fgts, ch, Sort.swp d' (first + root) (first + ch), by omega, by omega, by rw [swp_size]; exact hd, hF.trans hS, rfl, congrArg (fun es => [some (⟨ver, 121, 2, es⟩ : AObj)]) (swp_enc (by omega) (by omega))⟩
      | false =>
        refine CmpW.f (ltR_f hlt) ?_
        refine gos ?_
        refine RetW.plain (by simp) ?_
        rw [hlt] at hS
        simp only [Bool.not_false, if_true] at hS
        rw [hF, hS]
        exact ⟨rfl, rfl⟩
    | false =>
      refine CmpW.f (ltR_f h3) ?_
      refine gos ?_
      obtain ⟨ch, hch⟩ : ∃ ch, ch = 2 * root + 1 := ⟨_, rfl⟩
      simp only [show (2 * (root : Int) + 1) = (ch : Int) by omega]
      have hS : Sort.siftDown ltR hi first root d' = if !ltR d'[first + root]! d'[first + ch]! then d' else Sort.siftDown ltR hi first ch (Sort.swp d' (first + root) (first + ch)) := by
        rw [hS0, if_neg (by simp [h3]), hch]
      refine DrawW.L ?_
      (repeat (first | refine gof ?_ | refine fun (vv : Nat) => ?_))
      refine And.intro (And.intro (by omega) (by first | (rw [rgs_len]; omega) | (simp only [List.length_set]; rw [rgs_len]; omega))) ?_
      (repeat (first | refine gof ?_ | refine fun (vv : Nat) => ?_))
      refine ⟨encG d'[first + root]!, rgs_get (by omega), ?_⟩
      (repeat (first | refine gof ?_ | refine fun (vv : Nat) => ?_))
      refine And.intro (And.intro (by omega) (by first | (rw [rgs_len]; omega) | (simp only [List.length_set]; rw [rgs_len]; omega))) ?_
      (repeat (first | refine gof ?_ | refine fun (vv : Nat) => ?_))
      refine ⟨encG d'[first + ch]!, rgs_get (by omega), ?_⟩
      (repeat (first | refine gof ?_ | refine fun (vv : Nat) => ?_))
      refine CallW.pure (cmpR_does d'[first + root]! d'[first + ch]!) rfl rfl ?_
      (repeat (first | refine gof ?_ | refine fun (vv : Nat) => ?_))
      cases hlt : ltR d'[first + root]! d'[first + ch]! with
      | true =>
        refine CmpW.t (ltR_t hlt) ?_
        refine gos ?_
        refine DrawW.L ?_
        (repeat (first | refine gof ?_ | refine fun (vv : Nat) => ?_))
        refine And.intro (And.intro (by omega) (by first | (rw [rgs_len]; omega) | (simp only [List.length_set]; rw [rgs_len]; omega))) ?_
        (repeat (first | refine gof ?_ | refine fun (vv : Nat) => ?_))
        refine ⟨encG d'[first + ch]!, rgs_get (by omega), ?_⟩
        (repeat (first | refine gof ?_ | refine fun (vv : Nat) => ?_))
        refine And.intro (And.intro (by omega) (by first | (rw [rgs_len]; omega) | (simp only [List.length_set]; rw [rgs_len]; omega))) ?_
        (repeat (first | refine gof ?_ | refine fun (vv : Nat) => ?_))
        refine ⟨encG d'[first + root]!, rgs_get (by omega), ?_⟩
        (repeat (first | refine gof ?_ | refine fun (vv : Nat) => ?_))
        refine And.intro (And.intro (by omega) (by first | (rw [rgs_len]; omega) | (simp only [List.length_set]; rw [rgs_len]; omega))) ?_
        (repeat (first | refine gof ?_ | refine fun (vv : Nat) => ?_))
        refine ⟨encG d'[first + root]!, rgs_get (by omega), ?_⟩
        (repeat (first | refine gof ?_ | refine fun (vv : Nat) => ?_))
        refine And.intro (And.intro (by omega) (by first | (rw [rgs_len]; omega) | (simp only [List.length_set]; rw [rgs_len]; omega))) ?_
        (repeat (first | refine gof ?_ | refine fun (vv : Nat) => ?_))
        refine ⟨encG d'[first + ch]!, by show ((rgs ver d').es.set (first + root) _)[first + ch]? = _; rw [List.getElem?_set_ne (by omega)]; exact rgs_get (by omega), ?_⟩
        (repeat (first | refine gof ?_ | refine fun (vv : Nat) => ?_))
        rw [hlt] at hS
        simp only [Bool.not_true, Bool.false_eq_true, if_false] at hS
        exact ⟨f - 1, _, 1, by omega, fgts, ch, Sort.swp d' (first + root) (first + ch), by omega, by omega, by rw [swp_size]; exact hd, hF.trans hS, rfl, congrArg (fun es => [some (⟨ver, 121, 2, es⟩ : AObj)]) (swp_enc (by omega) (by omega))⟩
      | false =>
        refine CmpW.f (ltR_f hlt) ?_
        refine gos ?_
        refine RetW.plain (by simp) ?_
        rw [hlt] at hS
        simp only [Bool.not_false, if_true] at hS
        rw [hF, hS]
        exact ⟨rfl, rfl⟩
  · refine CmpW.N ?_
    refine gos ?_
    obtain ⟨ch, hch⟩ : ∃ ch, ch = 2 * root + 1 := ⟨_, rfl⟩
    simp only [show (2 * (root : Int) + 1) = (ch : Int) by omega]
    have hS : Sort.siftDown ltR hi first root d' = if !ltR d'[first + root]! d'[first + ch]! then d' else Sort.siftDown ltR hi first ch (Sort.swp d' (first + root) (first + ch)) := by
      rw [hS0, if_neg (by simp [h2]), hch]
    refine DrawW.L ?_
    (repeat (first | refine gof ?_ | refine fun (vv : Nat) => ?_))
    refine And.intro (And.intro (by omega) (by first | (rw [rgs_len]; omega) | (simp only [List.length_set]; rw [rgs_len]; omega))) ?_
    (repeat (first | refine gof ?_ | refine fun (vv : Nat) => ?_))
    refine ⟨encG d'[first + root]!, rgs_get (by omega), ?_⟩
    (repeat (first | refine gof ?_ | refine fun (vv : Nat) => ?_))
    refine And.intro (And.intro (by omega) (by first | (rw [rgs_len]; omega) | (simp only [List.length_set]; rw [rgs_len]; omega))) ?_
    (repeat (first | refine gof ?_ | refine fun (vv : Nat) => ?_))
    refine ⟨encG d'[first + ch]!, rgs_get (by omega), ?_⟩
    (repeat (first | refine gof ?_ | refine fun (vv : Nat) => ?_))
    refine CallW.pure (cmpR_does d'[first + root]! d'[first + ch]!) rfl rfl ?_
    (repeat (first | refine gof ?_ | refine fun (vv : Nat) => ?_))
    cases hlt : ltR d'[first + root]! d'[first + ch]! with
    | true =>
      refine CmpW.t (ltR_t hlt) ?_
      refine gos ?_
      refine DrawW.L ?_
      (repeat (first | refine gof ?_ | refine fun (vv : Nat) => ?_))
      refine And.intro (And.intro (by omega) (by first | (rw [rgs_len]; omega) | (simp only [List.length_set]; rw [rgs_len]; omega))) ?_
      (repeat (first | refine gof ?_ | refine fun (vv : Nat) => ?_))
      refine ⟨encG d'[first + ch]!, rgs_get (by omega), ?_⟩
      (repeat (first | refine gof ?_ | refine fun (vv : Nat) => ?_))
      refine And.intro (And.intro (by omega) (by first | (rw [rgs_len]; omega) | (simp only [List.length_set]; rw [rgs_len]; omega))) ?_
      (repeat (first | refine gof ?_ | refine fun (vv : Nat) => ?_))
      refine ⟨encG d'[first + root]!, rgs_get (by omega), ?_⟩
      (repeat (first | refine gof ?_ | refine fun (vv : Nat) => ?_))
      refine And.intro (And.intro (by omega) (by first | (rw [rgs_len]; omega) | (simp only [List.length_set]; rw [rgs_len]; omega))) ?_
      (repeat (first | refine gof ?_ | refine fun (vv : Nat) => ?_))
      refine ⟨encG d'[first + root]!, rgs_get (by omega), ?_⟩
      (repeat (first | refine gof ?_ | refine fun (vv : Nat) => ?_))
      refine And.intro (And.intro (by omega) (by first | (rw [rgs_len]; omega) | (simp only [List.length_set]; rw [rgs_len]; omega))) ?_
      (repeat (first | refine gof ?_ | refine fun (vv : Nat) => ?_))
      refine ⟨encG d'[first + ch]!, by show ((rgs ver d').es.set (first + root) _)[first + ch]? = _; rw [List.getElem?_set_ne (by omega)]; exact rgs_get (by omega), ?_⟩
      (repeat (first | refine gof ?_ | refine fun (vv : Nat) => ?_))
      rw [hlt] at hS
      simp only [Bool.not_true, Bool.false_eq_true, if_false] at hS
      exact ⟨f - 1, _, 1, by omega, fgts, ch, Sort.swp d' (first + root) (first + ch), by omega, by omega, by rw [swp_size]; exact hd, hF.trans hS, rfl, congrArg (fun es => [some (⟨ver, 121, 2, es⟩ : AObj)]) (swp_enc (by omega) (by omega))⟩
    | false =>
      refine CmpW.f (ltR_f hlt) ?_
      refine gos ?_
      refine RetW.plain (by simp) ?_
      rw [hlt] at hS
      simp only [Bool.not_false, if_true] at hS
      rw [hF, hS]
      exact ⟨rfl, rfl⟩
end Go.Proofs.YtjjppmbojcgdgaaGreatDoor

namespace Go.Proofs.YtjjppmbojcgdgaaGreatDoor
open Go Go.Abs
attribute [local irreducible] DrawW CallW RetW AC Does CmpW
variable {G : Globs}
theorem rgs_closed (ver : Nat) (d : Array Rg) : closedLL (rgs ver d).es = true := by
  have : ∀ l : List Rg, closedLL (l.map encG) = true := fun l => by induction l with
    | nil => rfl
    | cons x xs ih => simp [closedLL, encG, closedL, closed, ih]
  exact this _
theorem sif_size1 (hi first : Nat) : ∀ (n root : Nat) (d : Array Rg), hi - root ≤ n → (Sort.siftDown ltR hi first root d).size = d.size := by
  intro n
  induction n with
  | zero => intro root d h; rw [Sort.siftDown.eq_1, dif_pos (by omega)]
  | succ n ih =>
    intro root d h
    rw [Sort.siftDown.eq_1]
    split
    · rfl
    split
    · split
      · rfl
      split
      · rw [ih _ _ (by omega), swp_size]
      · rfl
    · split
      · rfl
      · rw [ih _ _ (by omega), swp_size]
theorem sif_size (d : Array Rg) (hi first root : Nat) : (Sort.siftDown ltR hi first root d).size = d.size := sif_size1 hi first _ root d (Nat.le_refl _)
theorem half_q (hi : Nat) (h : hi < 1000000) : IntKind.i64.wrap (((hi : Int) - 1).tdiv 2) = (((hi - 1) / 2 + 1 : Nat) : Int) - 1 := by
  cases hi with
  | zero => decide
  | succ n =>
    have e1 : ((n + 1 : Nat) : Int) - 1 = (n : Int) := by omega
    have e2 : (n : Int).tdiv 2 = ((n / 2 : Nat) : Int) := rfl
    rw [e1, e2, wrap_i64 (by omega) (by omega)]
    simp
theorem heaR_does (d : Array Rg) (a b ver : Nat) (hab : a ≤ b) (hb : b ≤ d.size) (hs : d.size < 1000000) :
    Does Tryz.prog G 214 [.sl 0 ver, .int .i64 a, .int .i64 b, cmpV] [some (rgs ver d)] fun ae O => ae = .ret (.tuple []) ∧ O = [some (rgs ver (Sort.heapSort ltR d a b))] := by
  refine Does.bodyA tab Tryz.func214 rfl rfl ?_
  refine AC.step tab ?_
  refine gos ?_
  refine AC.step tab ?_
  refine gos ?_
  refine AC.step tab ?_
  refine gos ?_
  obtain ⟨hi, hhi⟩ : ∃ hi, hi = b - a := ⟨_, rfl⟩
  simp only [show (b : Int) - (a : Int) = (hi : Int) by omega]
  refine AC.cutF tab (fun e h => ∃ d1, d1 = Sort.heapBuild ltR hi a ((hi - 1) / 2 + 1) d ∧ d1.size = d.size ∧ e = [.sl 0 ver, .any, .any, cmpV, .any, .any, .any, .any, .int .i64 a, .int .i64 0, .int .i64 hi] ++ List.replicate 49 .any ∧ h = [some (rgs ver d1)]) ?_ ?_
  · refine gos ?_
    refine And.intro ?_ ?_
    · decide
    refine gos ?_
    simp only [half_q hi (by omega)]
    refine AC.loopC tab (fun f e h => ∃ (k : Nat) (d' : Array Rg), k < f ∧ k < 1000000 ∧ d'.size = d.size ∧ Sort.heapBuild ltR hi a ((hi - 1) / 2 + 1) d = Sort.heapBuild ltR hi a k d' ∧ e = [.sl 0 ver, .any, .any, cmpV, .any, .any, .any, .any, .int .i64 a, .int .i64 0, .int .i64 hi, .int .i64 ((k : Int) - 1)] ++ List.replicate 48 .any ∧ h = [some (rgs ver d')])
      ((hi - 1) / 2 + 2) ⟨_, fgts, (hi - 1) / 2 + 1, d, by omega, by omega, rfl, rfl, rfl, rfl⟩ ?_
    rintro f e h ⟨k, d', hf, hk, hd, hF, rfl, rfl⟩
    refine gos ?_
    cases k with
    | zero =>
      refine CmpW.f (by simp) ?_
      refine gos ?_
      exact ⟨_, 1, fgts, d', hF.symm, hd, rfl, rfl⟩
    | succ k =>
      simp only [show ((k + 1 : Nat) : Int) - 1 = (k : Int) by omega]
      refine CmpW.t (by simp) ?_
      refine gos ?_
      refine CallW.meth 0 (sifR_does d' k hi a ver (by omega) (by omega) (by omega)) rfl rfl rfl (rgs_closed _ _) (rgs_closed _ _) rfl ?_
      refine gos ?_
      exact ⟨f - 1, _, 1, by omega, fgts, k, Sort.siftDown ltR hi a k d', by omega, by omega, by rw [sif_size]; exact hd, hF, rfl, rfl⟩
  rintro e h ⟨d1, hd1, hs1, rfl, rfl⟩
  refine AC.step tab ?_
  refine gos ?_
  refine AC.go tab ?_
  refine gos ?_
  refine AC.loopC tab (fun f e h => ∃ (k : Nat) (d' : Array Rg), k < f ∧ k ≤ hi ∧ d'.size = d.size ∧ Sort.heapPop ltR a hi d1 = Sort.heapPop ltR a k d' ∧ e = [.sl 0 ver, .any, .any, cmpV, .any, .any, .any, .any, .int .i64 a, .int .i64 0, .int .i64 hi, .any, .int .i64 ((k : Int) - 1)] ++ List.replicate 47 .any ∧ h = [some (rgs ver d')])
    (hi + 1) ⟨_, fgts, hi, d1, by omega, by omega, hs1, rfl, rfl, rfl⟩ ?_
  rintro f e h ⟨k, d', hf, hk, hd, hF, rfl, rfl⟩
  refine gos ?_
  cases k with
  | zero =>
    refine CmpW.f (by simp) ?_
    refine gos ?_
    refine RetW.plain (by simp) ?_
    have hE : Sort.heapSort ltR d a b = d' := by
      unfold Sort.heapSort
      rw [← hhi, ← hd1, hF]; rfl
    rw [hE]
    exact ⟨rfl, rfl⟩
  | succ k =>
    simp only [show ((k + 1 : Nat) : Int) - 1 = (k : Int) by omega]
    refine CmpW.t (by simp) ?_
    refine gos ?_
    refine DrawW.L ?_
    (repeat (first | refine gof ?_ | refine fun (vv : Nat) => ?_))
    refine And.intro (And.intro (by omega) (by first | (rw [rgs_len]; omega) | (simp only [List.length_set]; rw [rgs_len]; omega))) ?_
    (repeat (first | refine gof ?_ | refine fun (vv : Nat) => ?_))
    refine ⟨encG d'[a + k]!, rgs_get (by omega), ?_⟩
    (repeat (first | refine gof ?_ | refine fun (vv : Nat) => ?_))
    refine And.intro (And.intro (by omega) (by first | (rw [rgs_len]; omega) | (simp only [List.length_set]; rw [rgs_len]; omega))) ?_
    (repeat (first | refine gof ?_ | refine fun (vv : Nat) => ?_))
    refine ⟨encG d'[a]!, rgs_get (by omega), ?_⟩
    (repeat (first | refine gof ?_ | refine fun (vv : Nat) => ?_))
    refine And.intro (And.intro (by omega) (by first | (rw [rgs_len]; omega) | (simp only [List.length_set]; rw [rgs_len]; omega))) ?_
    (repeat (first | refine gof ?_ | refine fun (vv : Nat) => ?_))
    refine ⟨encG d'[a]!, rgs_get (by omega), ?_⟩
    (repeat (first | refine gof ?_ | refine fun (vv : Nat) => ?_))
    refine And.intro (And.intro (by omega) (by first | (rw [rgs_len]; omega) | (simp only [List.length_set]; rw [rgs_len]; omega))) ?_
    (repeat (first | refine gof ?_ | refine fun (vv : Nat) => ?_))
    refine ⟨encG d'[a + k]!, ?_, ?_⟩
    · show ((rgs ver d').es.set a (encG d'[a + k]!))[a + k]? = _
      by_cases h0 : k = 0
      · rw [h0, Nat.add_zero, List.getElem?_set_self (by rw [rgs_len]; omega)]
      · rw [List.getElem?_set_ne (by omega)]; exact rgs_get (by omega)
    (repeat (first | refine gof ?_ | refine fun (vv : Nat) => ?_))
    refine CallW.meth 0 (sifR_does (Sort.swp d' a (a + k)) 0 k a ver (by rw [swp_size]; omega) (by rw [swp_size]; omega) (by omega)) (congrArg (fun es => some (some (⟨ver, 121, 2, es⟩ : AObj))) (swp_enc (by omega) (by omega))) rfl rfl ?_ (rgs_closed _ _) rfl ?_
    · exact rgs_closed ver (Sort.swp d' a (a + k))
    refine gos ?_
    exact ⟨f - 1, _, 1, by omega, fgts, k, Sort.siftDown ltR k a 0 (Sort.swp d' a (a + k)), by omega, by omega, by rw [sif_size, swp_size]; exact hd, hF, rfl, rfl⟩
end Go.Proofs.YtjjppmbojcgdgaaGreatDoor

namespace Go.Proofs.YtjjppmbojcgdgaaGreatDoor
open Go Go.Abs
attribute [local irreducible] DrawW CallW RetW AC Does CmpW
variable {G : Globs}
def cntO (v : Nat) (n : Nat) : AObj := ⟨v, 3, 1, [[.int .i64 n]]⟩
theorem ordR_does (d : Array Rg) (a b n ver v : Nat) (ha : a < d.size) (hb : b < d.size) (hn : n < 1000000) (hs : d.size < 1000000) :
    Does Tryz.prog G 295 [.sl 0 ver, .int .i64 a, .int .i64 b, .ptr 1 v 0 0, cmpV] [some (rgs ver d), some (cntO v n)] fun ae O =>
      ae = .ret (.tuple [.int .i64 (Sort.order2 ltR d a b n).1, .int .i64 (Sort.order2 ltR d a b n).2.1]) ∧ O = [some (rgs ver d), some (cntO v (Sort.order2 ltR d a b n).2.2)] := by
  refine Does.body tab Tryz.func295 rfl rfl ?_
  refine gos ?_
  refine DrawW.L ?_
  (repeat (first | refine gof ?_ | refine fun (vv : Nat) => ?_))
  refine And.intro (And.intro (by omega) (by first | (rw [rgs_len]; omega) | (simp only [List.length_set]; rw [rgs_len]; omega))) ?_
  (repeat (first | refine gof ?_ | refine fun (vv : Nat) => ?_))
  refine ⟨encG d[b]!, rgs_get hb, ?_⟩
  (repeat (first | refine gof ?_ | refine fun (vv : Nat) => ?_))
  refine And.intro (And.intro (by omega) (by first | (rw [rgs_len]; omega) | (simp only [List.length_set]; rw [rgs_len]; omega))) ?_
  (repeat (first | refine gof ?_ | refine fun (vv : Nat) => ?_))
  refine ⟨encG d[a]!, rgs_get ha, ?_⟩
  (repeat (first | refine gof ?_ | refine fun (vv : Nat) => ?_))
  refine CallW.pure (cmpR_does d[b]! d[a]!) rfl rfl ?_
  (repeat (first | refine gof ?_ | refine fun (vv : Nat) => ?_))
  cases h : ltR d[b]! d[a]! with
  | true =>
    refine CmpW.t (ltR_t h) ?_
    (repeat (first | refine gof ?_ | refine fun (vv : Nat) => ?_))
    refine RetW.plain (by simp) ?_
    simp only [Sort.order2, h, if_true]
    (first | exact ⟨rfl, rfl⟩ | exact ⟨trivial, rfl⟩ | exact ⟨rfl, trivial⟩ | rfl | trivial | done)
  | false =>
    refine CmpW.f (ltR_f h) ?_
    (repeat (first | refine gof ?_ | refine fun (vv : Nat) => ?_))
    refine RetW.plain (by simp) ?_
    simp only [Sort.order2, h, Bool.false_eq_true, if_false]
    (first | exact ⟨rfl, rfl⟩ | exact ⟨trivial, rfl⟩ | exact ⟨rfl, trivial⟩ | rfl | trivial | done)
theorem ord_le (d : Array Rg) (a b n : Nat) : ((Sort.order2 ltR d a b n).1 = a ∨ (Sort.order2 ltR d a b n).1 = b) ∧ ((Sort.order2 ltR d a b n).2.1 = a ∨ (Sort.order2 ltR d a b n).2.1 = b) ∧ (Sort.order2 ltR d a b n).2.2 ≤ n + 1 := by
  unfold Sort.order2
  split <;> simp
theorem medR_does (d : Array Rg) (a b c n ver v : Nat) (ha : a < d.size) (hb : b < d.size) (hc : c < d.size) (hn : n < 100000) (hs : d.size < 1000000) :
    Does Tryz.prog G 268 [.sl 0 ver, .int .i64 a, .int .i64 b, .int .i64 c, .ptr 1 v 0 0, cmpV] [some (rgs ver d), some (cntO v n)] fun ae O =>
      ae = .ret (.int .i64 (Sort.median ltR d a b c n).1) ∧ O = [some (rgs ver d), some (cntO v (Sort.median ltR d a b c n).2)] := by
  refine Does.body tab Tryz.func268 rfl rfl ?_
  have call : ∀ (a b n : Nat) (K KP : AV → AHeap → Prop), a < d.size → b < d.size → n < 1000000 →
      K (.tuple [.int .i64 (Sort.order2 ltR d a b n).1, .int .i64 (Sort.order2 ltR d a b n).2.1]) [some (rgs ver d), some (cntO v (Sort.order2 ltR d a b n).2.2)] →
      CallW Tryz.prog G 295 [.sl 0 ver, .int .i64 a, .int .i64 b, .ptr 1 v 0 0, cmpV] [some (rgs ver d), some (cntO v n)] K KP := by
    intro a b n K KP ha hb hn hk
    refine CallW.of2 0 1 (ordR_does d a b n ver v ha hb hn hs) (by decide) rfl rfl (rgs_closed _ _) rfl rfl rfl ?_
    rintro ae O ⟨rfl, rfl⟩
    exact ⟨_, _, rfl, rgs_closed _ _, rfl, rfl, hk⟩
  refine gos ?_
  have o1 := ord_le d a b n
  refine call a b n _ _ ha hb (by omega) ?_
  unfold Sort.median
  simp only
  generalize Sort.order2 ltR d a b n = r1 at o1 ⊢
  obtain ⟨r11, r12, r13⟩ := r1
  simp only at o1 ⊢
  refine gos ?_
  have o2 := ord_le d r12 c r13
  refine call r12 c r13 _ _ (by omega) hc (by omega) ?_
  generalize Sort.order2 ltR d r12 c r13 = r2 at o2 ⊢
  obtain ⟨r21, r22, r23⟩ := r2
  simp only at o2 ⊢
  refine gos ?_
  refine call r11 r21 r23 _ _ (by omega) (by omega) (by omega) ?_
  generalize Sort.order2 ltR d r11 r21 r23 = r3
  obtain ⟨r31, r32, r33⟩ := r3
  simp only
  refine gos ?_
  refine RetW.plain (by simp) ?_
  exact ⟨rfl, rfl⟩
end Go.Proofs.YtjjppmbojcgdgaaGreatDoor

namespace Go.Proofs.YtjjppmbojcgdgaaGreatDoor
open Go Go.Abs
attribute [local irreducible] DrawW CallW RetW AC Does CmpW
variable {G : Globs}
theorem med_le (d : Array Rg) (a b c n : Nat) : ((Sort.median ltR d a b c n).1 = a ∨ (Sort.median ltR d a b c n).1 = b ∨ (Sort.median ltR d a b c n).1 = c) ∧ (Sort.median ltR d a b c n).2 ≤ n + 3 := by
  have o1 := ord_le d a b n
  have o2 := ord_le d (Sort.order2 ltR d a b n).2.1 c (Sort.order2 ltR d a b n).2.2
  have o3 := ord_le d (Sort.order2 ltR d a b n).1 (Sort.order2 ltR d (Sort.order2 ltR d a b n).2.1 c (Sort.order2 ltR d a b n).2.2).1 (Sort.order2 ltR d (Sort.order2 ltR d a b n).2.1 c (Sort.order2 ltR d a b n).2.2).2.2
  unfold Sort.median
  simp only
  omega
theorem med_call (d : Array Rg) (a b c n ver v : Nat) (ha : a < d.size) (hb : b < d.size) (hc : c < d.size) (hn : n < 100000) (hs : d.size < 1000000) {K KP : AV → AHeap → Prop}
    (hk : K (.int .i64 (Sort.median ltR d a b c n).1) [some (rgs ver d), some (cntO v (Sort.median ltR d a b c n).2)]) :
    CallW Tryz.prog G 268 [.sl 0 ver, .int .i64 a, .int .i64 b, .int .i64 c, .ptr 1 v 0 0, cmpV] [some (rgs ver d), some (cntO v n)] K KP := by
  refine CallW.of2 0 1 (medR_does d a b c n ver v ha hb hc hn hs) (by decide) rfl rfl (rgs_closed _ _) rfl rfl rfl ?_
  rintro ae O ⟨rfl, rfl⟩
  exact ⟨_, _, rfl, rgs_closed _ _, rfl, rfl, hk⟩
theorem adjR_does (d : Array Rg) (a n ver v : Nat) (ha1 : 1 ≤ a) (ha : a + 1 < d.size) (hn : n < 100000) (hs : d.size < 1000000) :
    Does Tryz.prog G 267 [.sl 0 ver, .int .i64 a, .ptr 1 v 0 0, cmpV] [some (rgs ver d), some (cntO v n)] fun ae O =>
      ae = .ret (.int .i64 (Sort.medianAdjacent ltR d a n).1) ∧ O = [some (rgs ver d), some (cntO v (Sort.medianAdjacent ltR d a n).2)] := by
  refine Does.body tab Tryz.func267 rfl rfl ?_
  (repeat (first | refine gof ?_ | refine fun (vv : Nat) => ?_))
  rw [show (a : Int) - 1 = ((a - 1 : Nat) : Int) by omega, show (a : Int) + 1 = ((a + 1 : Nat) : Int) by omega]
  refine med_call d (a - 1) a (a + 1) n ver v (by omega) (by omega) (by omega) hn hs ?_
  (repeat (first | refine gof ?_ | refine fun (vv : Nat) => ?_))
  refine RetW.plain (by simp) ?_
  exact ⟨rfl, rfl⟩
theorem adj_call (d : Array Rg) (a n ver v : Nat) (ha1 : 1 ≤ a) (ha : a + 1 < d.size) (hn : n < 100000) (hs : d.size < 1000000) {K KP : AV → AHeap → Prop}
    (hk : K (.int .i64 (Sort.medianAdjacent ltR d a n).1) [some (rgs ver d), some (cntO v (Sort.medianAdjacent ltR d a n).2)]) :
    CallW Tryz.prog G 267 [.sl 0 ver, .int .i64 a, .ptr 1 v 0 0, cmpV] [some (rgs ver d), some (cntO v n)] K KP := by
  refine CallW.of2 0 1 (adjR_does d a n ver v ha1 ha hn hs) (by decide) rfl rfl (rgs_closed _ _) rfl rfl rfl ?_
  rintro ae O ⟨rfl, rfl⟩
  exact ⟨_, _, rfl, rgs_closed _ _, rfl, rfl, hk⟩
theorem adj_le (d : Array Rg) (a n : Nat) : (Sort.medianAdjacent ltR d a n).1 ≤ a + 1 ∧ a - 1 ≤ (Sort.medianAdjacent ltR d a n).1 ∧ (Sort.medianAdjacent ltR d a n).2 ≤ n + 3 := by
  have h := med_le d (a - 1) a (a + 1) n
  unfold Sort.medianAdjacent
  omega
def hintN : Sort.Hint → Int
  | .unknown => 0
  | .increasing => 1
  | .decreasing => 2
theorem choR_does (d : Array Rg) (a b ver : Nat) (hab : a < b) (hb : b ≤ d.size) (hs : d.size < 1000000) :
    Does Tryz.prog G 216 [.sl 0 ver, .int .i64 a, .int .i64 b, cmpV] [some (rgs ver d)] fun ae O =>
      ae = .ret (.tuple [.int .i64 (Sort.choosePivot ltR d a b).1, .int .i64 (hintN (Sort.choosePivot ltR d a b).2)]) ∧ O = [some (rgs ver d)] := by
  refine Does.bodyA tab Tryz.func216 rfl rfl ?_
  refine AC.step tab ?_
  refine gos ?_
  refine AC.step tab ?_
  refine gos ?_
  refine AC.step tab ?_
  refine gos ?_
  obtain ⟨l, hl⟩ : ∃ l, l = b - a := ⟨_, rfl⟩
  simp only [show (b : Int) - (a : Int) = (l : Int) by omega]
  intro v
  refine gos ?_
  refine AC.step tab ?_
  refine gos ?_
  refine And.intro (by decide) ?_
  refine gos ?_
  refine AC.step tab ?_
  refine gos ?_
  refine And.intro (by decide) ?_
  refine gos ?_
  refine AC.step tab ?_
  refine gos ?_
  refine And.intro (by decide) ?_
  refine gos ?_
  have q4 : (l : Int).tdiv 4 = ((l / 4 : Nat) : Int) := rfl
  obtain ⟨i, hi⟩ : ∃ i, i = a + l / 4 * 1 := ⟨_, rfl⟩
  obtain ⟨j, hj⟩ : ∃ j, j = a + l / 4 * 2 := ⟨_, rfl⟩
  obtain ⟨k, hk⟩ : ∃ k, k = a + l / 4 * 3 := ⟨_, rfl⟩
  have hc : ∃ r : Nat × Nat, r = (if l ≥ 8 then
      if l ≥ 50 then
        let ri := Sort.medianAdjacent ltR d i 0
        let rj := Sort.medianAdjacent ltR d j ri.2
        let rk := Sort.medianAdjacent ltR d k rj.2
        Sort.median ltR d ri.1 rj.1 rk.1 rk.2
      else Sort.median ltR d i j k 0
    else (j, 0)) := ⟨_, rfl⟩
  obtain ⟨r, hr⟩ := hc
  have hcp : Sort.choosePivot ltR d a b = (r.1, if r.2 = 0 then .increasing else if r.2 = 12 then .decreasing else .unknown) := by
    rw [hr, hi, hj, hk, hl]
    rfl
  refine AC.cutF tab (fun e h => e = [.sl 0 ver, .any, .any, cmpV, .any, .any, .any, .any, .int .i64 0, .int .i64 0, .any, .ptr 1 v 0 0, .any, .int .i64 r.1] ++ List.replicate 49 .any ∧ h = [some (rgs ver d), some (cntO v r.2)]) ?_ ?_
  · simp only [q4, ← Int.natCast_mul, ← Int.natCast_add, show ((l / 4 : Nat) : Int) * 1 = ((l / 4 * 1 : Nat) : Int) by omega, show ((l / 4 : Nat) : Int) * 2 = ((l / 4 * 2 : Nat) : Int) by omega, show ((l / 4 : Nat) : Int) * 3 = ((l / 4 * 3 : Nat) : Int) by omega]
    simp only [← hi, ← hj, ← hk]
    refine gos ?_
    by_cases h8 : 8 ≤ l
    · refine CmpW.T ?_
      rw [if_pos h8] at hr
      refine gos ?_
      by_cases h50 : 50 ≤ l
      · refine CmpW.T ?_
        rw [if_pos h50] at hr
        simp only at hr
        refine gos ?_
        have m1 := adj_le d i 0
        refine adj_call d i 0 ver v (by omega) (by omega) (by omega) hs ?_
        generalize Sort.medianAdjacent ltR d i 0 = r1 at hr m1 ⊢
        obtain ⟨r11, r12⟩ := r1
        simp only at hr m1 ⊢
        refine gos ?_
        have m2 := adj_le d j r12
        refine adj_call d j r12 ver v (by omega) (by omega) (by omega) hs ?_
        generalize Sort.medianAdjacent ltR d j r12 = r2 at hr m2 ⊢
        obtain ⟨r21, r22⟩ := r2
        simp only at hr m2 ⊢
        refine gos ?_
        have m3 := adj_le d k r22
        refine adj_call d k r22 ver v (by omega) (by omega) (by omega) hs ?_
        generalize Sort.medianAdjacent ltR d k r22 = r3 at hr m3 ⊢
        obtain ⟨r31, r32⟩ := r3
        simp only at hr m3 ⊢
        refine gos ?_
        refine med_call d r11 r21 r31 r32 ver v (by omega) (by omega) (by omega) (by omega) hs ?_
        rw [← hr]
        refine gos ?_
        exact ⟨_, 2, fgts, rfl, rfl⟩
      · refine CmpW.N ?_
        rw [if_neg h50] at hr
        refine gos ?_
        refine med_call d i j k 0 ver v (by omega) (by omega) (by omega) (by omega) hs ?_
        rw [← hr]
        refine gos ?_
        exact ⟨_, 2, fgts, rfl, rfl⟩
    · refine CmpW.N ?_
      rw [if_neg h8] at hr
      refine gos ?_
      subst hr
      exact ⟨_, 2, fgts, rfl, rfl⟩
  rintro e h ⟨rfl, rfl⟩
  rw [hcp]
  simp only
  refine AC.step tab ?_
  refine gos ?_
  refine AC.go tab ?_
  refine gos ?_
  by_cases h0 : r.2 = 0
  · refine CmpW.T ?_
    rw [if_pos h0]
    refine gos ?_
    refine RetW.plain (by simp) ?_
    exact ⟨rfl, rfl⟩
  · refine CmpW.N ?_
    rw [if_neg h0]
    refine gos ?_
    by_cases h12 : r.2 = 12
    · refine CmpW.T ?_
      rw [if_pos h12]
      refine gos ?_
      refine RetW.plain (by simp) ?_
      exact ⟨rfl, rfl⟩
    · refine CmpW.N ?_
      rw [if_neg h12]
      refine gos ?_
      refine RetW.plain (by simp) ?_
      exact ⟨rfl, rfl⟩
end Go.Proofs.YtjjppmbojcgdgaaGreatDoor
