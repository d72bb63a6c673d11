/- Sorting ranges: by a heap. -/
import Derived.Test.YtijdnjngfkohfaaGreatDoorJ02
set_option linter.unusedVariables false
set_option linter.unusedSimpArgs false
set_option maxRecDepth 100000
set_option maxHeartbeats 4000000

namespace Go.Proofs.YtijdnjngfkohfaaGreatDoor
open Go Go.Abs
attribute [local irreducible] DrawW CallW RetW AC Does CmpW
variable {G : Globs}
theorem rgs_closed (ver : Nat) (d : Array Rg) : closedLL (rgs ver d).es = true := by
  have : ∀ l : List Rg, closedLL (l.map encG) = true := fun l => by induction l with
    | nil => rfl
    | cons x xs ih => simp [closedLL, encG, closedL, closed, ih]
  exact this _
theorem sif_size1 (hi first : Nat) : ∀ (n root : Nat) (d : Array Rg), hi - root ≤ n → (Sort.siftDown ltR hi first root d).size = d.size := by
  intro n
  induction n with
  | zero => intro root d h; rw [Sort.siftDown.eq_1, dif_pos (by omega)]
  | succ n ih =>
    intro root d h
    rw [Sort.siftDown.eq_1]
    split
    · rfl
    split
    · split
      · rfl
      split
      · rw [ih _ _ (by omega), swp_size]
      · rfl
    · split
      · rfl
      · rw [ih _ _ (by omega), swp_size]
theorem sif_size (d : Array Rg) (hi first root : Nat) : (Sort.siftDown ltR hi first root d).size = d.size := sif_size1 hi first _ root d (Nat.le_refl _)
theorem half_q (hi : Nat) (h : hi < 1000000) : IntKind.i64.wrap (((hi : Int) - 1).tdiv 2) = (((hi - 1) / 2 + 1 : Nat) : Int) - 1 := by
  cases hi with
  | zero => decide
  | succ n =>
    have e1 : ((n + 1 : Nat) : Int) - 1 = (n : Int) := by omega
    have e2 : (n : Int).tdiv 2 = ((n / 2 : Nat) : Int) := rfl
    rw [e1, e2, wrap_i64 (by omega) (by omega)]
    simp
theorem heaR_does (d : Array Rg) (a b ver : Nat) (hab : a ≤ b) (hb : b ≤ d.size) (hs : d.size < 1000000) :
    Does Tryz.prog G 193 [.sl 0 ver, .int .i64 a, .int .i64 b, cmpV] [some (rgs ver d)] fun ae O => ae = .ret (.tuple []) ∧ O = [some (rgs ver (Sort.heapSort ltR d a b))] := by
  refine Does.bodyA tab Tryz.func193 rfl rfl ?_
  refine AC.step tab ?_
  refine gos ?_
  refine AC.step tab ?_
  refine gos ?_
  refine AC.step tab ?_
  refine gos ?_
  obtain ⟨hi, hhi⟩ : ∃ hi, hi = b - a := ⟨_, rfl⟩
  simp only [show (b : Int) - (a : Int) = (hi : Int) by omega]
  refine AC.cutF tab (fun e h => ∃ d1, d1 = Sort.heapBuild ltR hi a ((hi - 1) / 2 + 1) d ∧ d1.size = d.size ∧ e = [.sl 0 ver, .any, .any, cmpV, .any, .any, .any, .any, .int .i64 a, .int .i64 0, .int .i64 hi] ++ List.replicate 49 .any ∧ h = [some (rgs ver d1)]) ?_ ?_
  · refine gos ?_
    refine And.intro ?_ ?_
    · decide
    refine gos ?_
    simp only [half_q hi (by omega)]
    refine AC.loopC tab (fun f e h => ∃ (k : Nat) (d' : Array Rg), k < f ∧ k < 1000000 ∧ d'.size = d.size ∧ Sort.heapBuild ltR hi a ((hi - 1) / 2 + 1) d = Sort.heapBuild ltR hi a k d' ∧ e = [.sl 0 ver, .any, .any, cmpV, .any, .any, .any, .any, .int .i64 a, .int .i64 0, .int .i64 hi, .int .i64 ((k : Int) - 1)] ++ List.replicate 48 .any ∧ h = [some (rgs ver d')])
      ((hi - 1) / 2 + 2) ⟨_, fgts, (hi - 1) / 2 + 1, d, by omega, by omega, rfl, rfl, rfl, rfl⟩ ?_
    rintro f e h ⟨k, d', hf, hk, hd, hF, rfl, rfl⟩
    refine gos ?_
    cases k with
    | zero =>
      refine CmpW.f (by simp) ?_
      refine gos ?_
      exact ⟨_, 1, fgts, d', hF.symm, hd, rfl, rfl⟩
    | succ k =>
      simp only [show ((k + 1 : Nat) : Int) - 1 = (k : Int) by omega]
      refine CmpW.t (by simp) ?_
      refine gos ?_
      refine CallW.meth 0 (sifR_does d' k hi a ver (by omega) (by omega) (by omega)) rfl rfl rfl (rgs_closed _ _) (rgs_closed _ _) rfl ?_
      refine gos ?_
      exact ⟨f - 1, _, 1, by omega, fgts, k, Sort.siftDown ltR hi a k d', by omega, by omega, by rw [sif_size]; exact hd, hF, rfl, rfl⟩
  rintro e h ⟨d1, hd1, hs1, rfl, rfl⟩
  refine AC.step tab ?_
  refine gos ?_
  refine AC.go tab ?_
  refine gos ?_
  refine AC.loopC tab (fun f e h => ∃ (k : Nat) (d' : Array Rg), k < f ∧ k ≤ hi ∧ d'.size = d.size ∧ Sort.heapPop ltR a hi d1 = Sort.heapPop ltR a k d' ∧ e = [.sl 0 ver, .any, .any, cmpV, .any, .any, .any, .any, .int .i64 a, .int .i64 0, .int .i64 hi, .any, .int .i64 ((k : Int) - 1)] ++ List.replicate 47 .any ∧ h = [some (rgs ver d')])
    (hi + 1) ⟨_, fgts, hi, d1, by omega, by omega, hs1, rfl, rfl, rfl⟩ ?_
  rintro f e h ⟨k, d', hf, hk, hd, hF, rfl, rfl⟩
  refine gos ?_
  cases k with
  | zero =>
    refine CmpW.f (by simp) ?_
    refine gos ?_
    refine RetW.plain (by simp) ?_
    have hE : Sort.heapSort ltR d a b = d' := by
      unfold Sort.heapSort
      rw [← hhi, ← hd1, hF]; rfl
    rw [hE]
    exact ⟨rfl, rfl⟩
  | succ k =>
    simp only [show ((k + 1 : Nat) : Int) - 1 = (k : Int) by omega]
    refine CmpW.t (by simp) ?_
    refine gos ?_
    refine DrawW.L ?_
    (repeat (first | refine gof ?_ | refine fun (vv : Nat) => ?_))
    refine And.intro (And.intro (by omega) (by first | (rw [rgs_len]; omega) | (simp only [List.length_set]; rw [rgs_len]; omega))) ?_
    (repeat (first | refine gof ?_ | refine fun (vv : Nat) => ?_))
    refine ⟨encG d'[a + k]!, rgs_get (by omega), ?_⟩
    (repeat (first | refine gof ?_ | refine fun (vv : Nat) => ?_))
    refine And.intro (And.intro (by omega) (by first | (rw [rgs_len]; omega) | (simp only [List.length_set]; rw [rgs_len]; omega))) ?_
    (repeat (first | refine gof ?_ | refine fun (vv : Nat) => ?_))
    refine ⟨encG d'[a]!, rgs_get (by omega), ?_⟩
    (repeat (first | refine gof ?_ | refine fun (vv : Nat) => ?_))
    refine And.intro (And.intro (by omega) (by first | (rw [rgs_len]; omega) | (simp only [List.length_set]; rw [rgs_len]; omega))) ?_
    (repeat (first | refine gof ?_ | refine fun (vv : Nat) => ?_))
    refine ⟨encG d'[a]!, rgs_get (by omega), ?_⟩
    (repeat (first | refine gof ?_ | refine fun (vv : Nat) => ?_))
    refine And.intro (And.intro (by omega) (by first | (rw [rgs_len]; omega) | (simp only [List.length_set]; rw [rgs_len]; omega))) ?_
    (repeat (first | refine gof ?_ | refine fun (vv : Nat) => ?_))
    refine ⟨encG d'[a + k]!, ?_, ?_⟩
    · show ((rgs ver d').es.set a (encG d'[a + k]!))[a + k]? = _
      by_cases h0 : k = 0
      · rw [h0, Nat.add_zero, List.getElem?_set_self (by rw [rgs_len]; omega)]
      · rw [List.getElem?_set_ne (by omega)]; exact rgs_get (by omega)
    (repeat (first | refine gof ?_ | refine fun (vv : Nat) => ?_))
    refine CallW.meth 0 (sifR_does (Sort.swp d' a (a + k)) 0 k a ver (by rw [swp_size]; omega) (by rw [swp_size]; omega) (by omega)) (congrArg (fun es => some (some (⟨ver, 145, 2, es⟩ : AObj))) (swp_enc (by omega) (by omega))) rfl rfl ?_ (rgs_closed _ _) rfl ?_
    · exact rgs_closed ver (Sort.swp d' a (a + k))
    refine gos ?_
    exact ⟨f - 1, _, 1, by omega, fgts, k, Sort.siftDown ltR k a 0 (Sort.swp d' a (a + k)), by omega, by omega, by rw [sif_size, swp_size]; exact hd, hF, rfl, rfl⟩
end Go.Proofs.YtijdnjngfkohfaaGreatDoor
