/- CpatMany: as many noughts as may be, and more. -/
import Derived.Test.YtjbkhjjaajhjaaaDoorHead
set_option linter.unusedVariables false
set_option linter.unusedSimpArgs false
namespace Go.Proofs.YtjbkhjjaajhjaaaDoor
open Go Go.Abs

def manyT (n : Nat) (two : Bool) : List UInt8 := if two then List.replicate n 48 ++ [75, 59, 45] ++ List.replicate n 48 ++ [75] else List.replicate n 48
/-- Is it as it should be? -/
def manyB (n : Nat) (two : Bool) : Bool := match cpaE (manyT n two) with
  | .ok v => decide (n ≤ 15) && decide (v.N.mi = n) && (noopF v == (decide (n = 1) && !two))
  | .error x => decide (15 < n) && decide (x.1 = 3)
theorem many_all : ((List.range 33).all fun n => n == 0 || (manyB n false && manyB n true)) = true := by kernel_rfl
theorem many_ok {n : Nat} (h0 : n ≠ 0) (h : n < 33) (two : Bool) : manyB n two = true := by
  have := List.all_eq_true.1 many_all n (List.mem_range.2 h)
  simp only [Bool.or_eq_true, Bool.and_eq_true, beq_iff_eq] at this
  rcases this with h1 | ⟨h1, h2⟩
  · exact absurd h1 h0
  · cases two
    · exact h1
    · exact h2
theorem and31 (a : Int) : ∃ k : Nat, k < 32 ∧ IntKind.i64.wrap (BitVec.ofInt IntKind.i64.bits a &&& BitVec.ofInt IntKind.i64.bits 31).toNat = (k : Int) := by
  have hle : (BitVec.ofInt IntKind.i64.bits a &&& BitVec.ofInt IntKind.i64.bits 31).toNat ≤ 31 := by
    rw [BitVec.toNat_and]
    exact Nat.and_le_right
  exact ⟨_, Nat.lt_succ_of_le hle, wrap_i64 (by omega) (by omega)⟩

section
attribute [local irreducible] DrawW CallW RetW AC Does CmpW
set_option maxRecDepth 100000
set_option maxHeartbeats 4000000 in
theorem CpatMany_does (m : Int) (a : Int) (two : Bool) : Does Tryd.prog (GL m) 4 [.int .i64 a, .bool two] [] fun ae _ => ae = .ret (.bool true) := by
  refine Does.body tab Tryd.func4 rfl rfl ?_
  (repeat (first | refine And.intro rfl ?_ | refine Exists.intro _ (And.intro (wrap_i64 (by first | omega | (simp; done) | (simp; omega)) (by first | omega | (simp; done) | (simp; omega))) ?_) | refine Exists.intro _ (And.intro rfl ?_) | refine And.intro (fun _ => ?_) (fun h => Bool.noConfusion h) | refine And.intro (fun h => Bool.noConfusion h) (fun _ => ?_) | refine And.intro (And.intro (by decide) (by decide)) ?_ | refine And.intro (And.intro (Nat.le_of_ble_eq_true rfl) (Nat.le_of_ble_eq_true rfl)) ?_ | refine And.intro (And.intro rfl (And.intro rfl (And.intro rfl rfl))) ?_ | refine And.intro (And.intro rfl (And.intro rfl (Nat.le_of_ble_eq_true rfl))) ?_ | refine And.intro (And.intro rfl (And.intro rfl rfl)) ?_ | refine And.intro trivial ?_ | refine CmpW.t rfl ?_ | refine CmpW.f rfl ?_))
  refine CallW.pure (head_does m) rfl rfl ?_
  (repeat (first | refine And.intro rfl ?_ | refine Exists.intro _ (And.intro (wrap_i64 (by first | omega | (simp; done) | (simp; omega)) (by first | omega | (simp; done) | (simp; omega))) ?_) | refine Exists.intro _ (And.intro rfl ?_) | refine And.intro (fun _ => ?_) (fun h => Bool.noConfusion h) | refine And.intro (fun h => Bool.noConfusion h) (fun _ => ?_) | refine And.intro (And.intro (by decide) (by decide)) ?_ | refine And.intro (And.intro (Nat.le_of_ble_eq_true rfl) (Nat.le_of_ble_eq_true rfl)) ?_ | refine And.intro (And.intro rfl (And.intro rfl (And.intro rfl rfl))) ?_ | refine And.intro (And.intro rfl (And.intro rfl (Nat.le_of_ble_eq_true rfl))) ?_ | refine And.intro (And.intro rfl (And.intro rfl rfl)) ?_ | refine And.intro trivial ?_ | refine CmpW.t rfl ?_ | refine CmpW.f rfl ?_))
  obtain ⟨k, hk, hw⟩ := and31 a
  rw [hw]
  have e1 : (1 : Int) + (k : Int) = ((k + 1 : Nat) : Int) := by omega
  rw [e1, wrap_i64 (n := ((k + 1 : Nat) : Int)) (by omega) (by omega)]
  generalize hn : k + 1 = n
  have h0 : n ≠ 0 := by omega
  have h33 : n < 33 := by omega
  (repeat (first | refine And.intro rfl ?_ | refine Exists.intro _ (And.intro (wrap_i64 (by first | omega | (simp; done) | (simp; omega)) (by first | omega | (simp; done) | (simp; omega))) ?_) | refine Exists.intro _ (And.intro rfl ?_) | refine And.intro (fun _ => ?_) (fun h => Bool.noConfusion h) | refine And.intro (fun h => Bool.noConfusion h) (fun _ => ?_) | refine And.intro (And.intro (by decide) (by decide)) ?_ | refine And.intro (And.intro (Nat.le_of_ble_eq_true rfl) (Nat.le_of_ble_eq_true rfl)) ?_ | refine And.intro (And.intro rfl (And.intro rfl (And.intro rfl rfl))) ?_ | refine And.intro (And.intro rfl (And.intro rfl (Nat.le_of_ble_eq_true rfl))) ?_ | refine And.intro (And.intro rfl (And.intro rfl rfl)) ?_ | refine And.intro trivial ?_ | refine CmpW.t rfl ?_ | refine CmpW.f rfl ?_))
  refine CallW.pure (noughts_does n (by omega)) rfl rfl ?_
  have hM := many_ok h0 h33 two
  have hC := CParse_does (m := m) (manyT n two) (by cases two <;> simp [manyT] <;> omega)
  unfold manyB at hM
  cases two
  case' true =>
    (repeat (first | refine And.intro rfl ?_ | refine Exists.intro _ (And.intro (wrap_i64 (by first | omega | (simp; done) | (simp; omega)) (by first | omega | (simp; done) | (simp; omega))) ?_) | refine Exists.intro _ (And.intro rfl ?_) | refine And.intro (fun _ => ?_) (fun h => Bool.noConfusion h) | refine And.intro (fun h => Bool.noConfusion h) (fun _ => ?_) | refine And.intro (And.intro (by decide) (by decide)) ?_ | refine And.intro (And.intro (Nat.le_of_ble_eq_true rfl) (Nat.le_of_ble_eq_true rfl)) ?_ | refine And.intro (And.intro rfl (And.intro rfl (And.intro rfl rfl))) ?_ | refine And.intro (And.intro rfl (And.intro rfl (Nat.le_of_ble_eq_true rfl))) ?_ | refine And.intro (And.intro rfl (And.intro rfl rfl)) ?_ | refine And.intro trivial ?_ | refine CmpW.t rfl ?_ | refine CmpW.f rfl ?_))
    refine And.intro (by simp; omega) ?_
    (repeat (first | refine And.intro rfl ?_ | refine Exists.intro _ (And.intro (wrap_i64 (by first | omega | (simp; done) | (simp; omega)) (by first | omega | (simp; done) | (simp; omega))) ?_) | refine Exists.intro _ (And.intro rfl ?_) | refine And.intro (fun _ => ?_) (fun h => Bool.noConfusion h) | refine And.intro (fun h => Bool.noConfusion h) (fun _ => ?_) | refine And.intro (And.intro (by decide) (by decide)) ?_ | refine And.intro (And.intro (Nat.le_of_ble_eq_true rfl) (Nat.le_of_ble_eq_true rfl)) ?_ | refine And.intro (And.intro rfl (And.intro rfl (And.intro rfl rfl))) ?_ | refine And.intro (And.intro rfl (And.intro rfl (Nat.le_of_ble_eq_true rfl))) ?_ | refine And.intro (And.intro rfl (And.intro rfl rfl)) ?_ | refine And.intro trivial ?_ | refine CmpW.t rfl ?_ | refine CmpW.f rfl ?_))
    refine And.intro (by simp; omega) ?_
    (repeat (first | refine And.intro rfl ?_ | refine Exists.intro _ (And.intro (wrap_i64 (by first | omega | (simp; done) | (simp; omega)) (by first | omega | (simp; done) | (simp; omega))) ?_) | refine Exists.intro _ (And.intro rfl ?_) | refine And.intro (fun _ => ?_) (fun h => Bool.noConfusion h) | refine And.intro (fun h => Bool.noConfusion h) (fun _ => ?_) | refine And.intro (And.intro (by decide) (by decide)) ?_ | refine And.intro (And.intro (Nat.le_of_ble_eq_true rfl) (Nat.le_of_ble_eq_true rfl)) ?_ | refine And.intro (And.intro rfl (And.intro rfl (And.intro rfl rfl))) ?_ | refine And.intro (And.intro rfl (And.intro rfl (Nat.le_of_ble_eq_true rfl))) ?_ | refine And.intro (And.intro rfl (And.intro rfl rfl)) ?_ | refine And.intro trivial ?_ | refine CmpW.t rfl ?_ | refine CmpW.f rfl ?_))
    refine And.intro (by simp; omega) ?_
    (repeat (first | refine And.intro rfl ?_ | refine Exists.intro _ (And.intro (wrap_i64 (by first | omega | (simp; done) | (simp; omega)) (by first | omega | (simp; done) | (simp; omega))) ?_) | refine Exists.intro _ (And.intro rfl ?_) | refine And.intro (fun _ => ?_) (fun h => Bool.noConfusion h) | refine And.intro (fun h => Bool.noConfusion h) (fun _ => ?_) | refine And.intro (And.intro (by decide) (by decide)) ?_ | refine And.intro (And.intro (Nat.le_of_ble_eq_true rfl) (Nat.le_of_ble_eq_true rfl)) ?_ | refine And.intro (And.intro rfl (And.intro rfl (And.intro rfl rfl))) ?_ | refine And.intro (And.intro rfl (And.intro rfl (Nat.le_of_ble_eq_true rfl))) ?_ | refine And.intro (And.intro rfl (And.intro rfl rfl)) ?_ | refine And.intro trivial ?_ | refine CmpW.t rfl ?_ | refine CmpW.f rfl ?_))
  case' false =>
    (repeat (first | refine And.intro rfl ?_ | refine Exists.intro _ (And.intro (wrap_i64 (by first | omega | (simp; done) | (simp; omega)) (by first | omega | (simp; done) | (simp; omega))) ?_) | refine Exists.intro _ (And.intro rfl ?_) | refine And.intro (fun _ => ?_) (fun h => Bool.noConfusion h) | refine And.intro (fun h => Bool.noConfusion h) (fun _ => ?_) | refine And.intro (And.intro (by decide) (by decide)) ?_ | refine And.intro (And.intro (Nat.le_of_ble_eq_true rfl) (Nat.le_of_ble_eq_true rfl)) ?_ | refine And.intro (And.intro rfl (And.intro rfl (And.intro rfl rfl))) ?_ | refine And.intro (And.intro rfl (And.intro rfl (Nat.le_of_ble_eq_true rfl))) ?_ | refine And.intro (And.intro rfl (And.intro rfl rfl)) ?_ | refine And.intro trivial ?_ | refine CmpW.t rfl ?_ | refine CmpW.f rfl ?_))
  all_goals
    cases hc : cpaE (manyT n _) with
    | error x =>
      obtain ⟨c, b⟩ := x
      rw [hc] at hM hC
      simp only [Bool.and_eq_true, decide_eq_true_eq] at hM
      obtain ⟨h15, rfl⟩ := hM
      refine CallW.pure hC rfl rfl ?_
      (repeat (first | refine And.intro rfl ?_ | refine Exists.intro _ (And.intro (wrap_i64 (by first | omega | (simp; done) | (simp; omega)) (by first | omega | (simp; done) | (simp; omega))) ?_) | refine Exists.intro _ (And.intro rfl ?_) | refine And.intro (fun _ => ?_) (fun h => Bool.noConfusion h) | refine And.intro (fun h => Bool.noConfusion h) (fun _ => ?_) | refine And.intro (And.intro (by decide) (by decide)) ?_ | refine And.intro (And.intro (Nat.le_of_ble_eq_true rfl) (Nat.le_of_ble_eq_true rfl)) ?_ | refine And.intro (And.intro rfl (And.intro rfl (And.intro rfl rfl))) ?_ | refine And.intro (And.intro rfl (And.intro rfl (Nat.le_of_ble_eq_true rfl))) ?_ | refine And.intro (And.intro rfl (And.intro rfl rfl)) ?_ | refine And.intro trivial ?_ | refine CmpW.t rfl ?_ | refine CmpW.f rfl ?_))
      intro v1
      (repeat (first | refine And.intro rfl ?_ | refine Exists.intro _ (And.intro (wrap_i64 (by first | omega | (simp; done) | (simp; omega)) (by first | omega | (simp; done) | (simp; omega))) ?_) | refine Exists.intro _ (And.intro rfl ?_) | refine And.intro (fun _ => ?_) (fun h => Bool.noConfusion h) | refine And.intro (fun h => Bool.noConfusion h) (fun _ => ?_) | refine And.intro (And.intro (by decide) (by decide)) ?_ | refine And.intro (And.intro (Nat.le_of_ble_eq_true rfl) (Nat.le_of_ble_eq_true rfl)) ?_ | refine And.intro (And.intro rfl (And.intro rfl (And.intro rfl rfl))) ?_ | refine And.intro (And.intro rfl (And.intro rfl (Nat.le_of_ble_eq_true rfl))) ?_ | refine And.intro (And.intro rfl (And.intro rfl rfl)) ?_ | refine And.intro trivial ?_ | refine CmpW.t rfl ?_ | refine CmpW.f rfl ?_))
      refine CmpW.f (by simp; omega) ?_
      (repeat (first | refine And.intro rfl ?_ | refine Exists.intro _ (And.intro (wrap_i64 (by first | omega | (simp; done) | (simp; omega)) (by first | omega | (simp; done) | (simp; omega))) ?_) | refine Exists.intro _ (And.intro rfl ?_) | refine And.intro (fun _ => ?_) (fun h => Bool.noConfusion h) | refine And.intro (fun h => Bool.noConfusion h) (fun _ => ?_) | refine And.intro (And.intro (by decide) (by decide)) ?_ | refine And.intro (And.intro (Nat.le_of_ble_eq_true rfl) (Nat.le_of_ble_eq_true rfl)) ?_ | refine And.intro (And.intro rfl (And.intro rfl (And.intro rfl rfl))) ?_ | refine And.intro (And.intro rfl (And.intro rfl (Nat.le_of_ble_eq_true rfl))) ?_ | refine And.intro (And.intro rfl (And.intro rfl rfl)) ?_ | refine And.intro trivial ?_ | refine CmpW.t rfl ?_ | refine CmpW.f rfl ?_))
      refine CmpW.f (by simp; omega) ?_
      (repeat (first | refine And.intro rfl ?_ | refine Exists.intro _ (And.intro (wrap_i64 (by first | omega | (simp; done) | (simp; omega)) (by first | omega | (simp; done) | (simp; omega))) ?_) | refine Exists.intro _ (And.intro rfl ?_) | refine And.intro (fun _ => ?_) (fun h => Bool.noConfusion h) | refine And.intro (fun h => Bool.noConfusion h) (fun _ => ?_) | refine And.intro (And.intro (by decide) (by decide)) ?_ | refine And.intro (And.intro (Nat.le_of_ble_eq_true rfl) (Nat.le_of_ble_eq_true rfl)) ?_ | refine And.intro (And.intro rfl (And.intro rfl (And.intro rfl rfl))) ?_ | refine And.intro (And.intro rfl (And.intro rfl (Nat.le_of_ble_eq_true rfl))) ?_ | refine And.intro (And.intro rfl (And.intro rfl rfl)) ?_ | refine And.intro trivial ?_ | refine CmpW.t rfl ?_ | refine CmpW.f rfl ?_))
      refine CmpW.t (by simp; omega) ?_
      (repeat (first | refine And.intro rfl ?_ | refine Exists.intro _ (And.intro (wrap_i64 (by first | omega | (simp; done) | (simp; omega)) (by first | omega | (simp; done) | (simp; omega))) ?_) | refine Exists.intro _ (And.intro rfl ?_) | refine And.intro (fun _ => ?_) (fun h => Bool.noConfusion h) | refine And.intro (fun h => Bool.noConfusion h) (fun _ => ?_) | refine And.intro (And.intro (by decide) (by decide)) ?_ | refine And.intro (And.intro (Nat.le_of_ble_eq_true rfl) (Nat.le_of_ble_eq_true rfl)) ?_ | refine And.intro (And.intro rfl (And.intro rfl (And.intro rfl rfl))) ?_ | refine And.intro (And.intro rfl (And.intro rfl (Nat.le_of_ble_eq_true rfl))) ?_ | refine And.intro (And.intro rfl (And.intro rfl rfl)) ?_ | refine And.intro trivial ?_ | refine CmpW.t rfl ?_ | refine CmpW.f rfl ?_))
      refine RetW.plain (by simp) ?_
      rfl
    | ok v =>
      rw [hc] at hM hC
      simp only [Bool.and_eq_true, decide_eq_true_eq, beq_iff_eq] at hM
      obtain ⟨⟨h15, hmi⟩, hno⟩ := hM
      obtain ⟨p, q, p', q', tw, N⟩ := v
      simp only at hmi
      cases tw
      all_goals
        refine CallW.pure hC rfl rfl ?_
        (repeat (first | refine And.intro rfl ?_ | refine Exists.intro _ (And.intro (wrap_i64 (by first | omega | (simp; done) | (simp; omega)) (by first | omega | (simp; done) | (simp; omega))) ?_) | refine Exists.intro _ (And.intro rfl ?_) | refine And.intro (fun _ => ?_) (fun h => Bool.noConfusion h) | refine And.intro (fun h => Bool.noConfusion h) (fun _ => ?_) | refine And.intro (And.intro (by decide) (by decide)) ?_ | refine And.intro (And.intro (Nat.le_of_ble_eq_true rfl) (Nat.le_of_ble_eq_true rfl)) ?_ | refine And.intro (And.intro rfl (And.intro rfl (And.intro rfl rfl))) ?_ | refine And.intro (And.intro rfl (And.intro rfl (Nat.le_of_ble_eq_true rfl))) ?_ | refine And.intro (And.intro rfl (And.intro rfl rfl)) ?_ | refine And.intro trivial ?_ | refine CmpW.t rfl ?_ | refine CmpW.f rfl ?_))
        intro v1
        (repeat (first | refine And.intro rfl ?_ | refine Exists.intro _ (And.intro (wrap_i64 (by first | omega | (simp; done) | (simp; omega)) (by first | omega | (simp; done) | (simp; omega))) ?_) | refine Exists.intro _ (And.intro rfl ?_) | refine And.intro (fun _ => ?_) (fun h => Bool.noConfusion h) | refine And.intro (fun h => Bool.noConfusion h) (fun _ => ?_) | refine And.intro (And.intro (by decide) (by decide)) ?_ | refine And.intro (And.intro (Nat.le_of_ble_eq_true rfl) (Nat.le_of_ble_eq_true rfl)) ?_ | refine And.intro (And.intro rfl (And.intro rfl (And.intro rfl rfl))) ?_ | refine And.intro (And.intro rfl (And.intro rfl (Nat.le_of_ble_eq_true rfl))) ?_ | refine And.intro (And.intro rfl (And.intro rfl rfl)) ?_ | refine And.intro trivial ?_ | refine CmpW.t rfl ?_ | refine CmpW.f rfl ?_))
        refine CmpW.t (by simp; omega) ?_
        (repeat (first | refine And.intro rfl ?_ | refine Exists.intro _ (And.intro (wrap_i64 (by first | omega | (simp; done) | (simp; omega)) (by first | omega | (simp; done) | (simp; omega))) ?_) | refine Exists.intro _ (And.intro rfl ?_) | refine And.intro (fun _ => ?_) (fun h => Bool.noConfusion h) | refine And.intro (fun h => Bool.noConfusion h) (fun _ => ?_) | refine And.intro (And.intro (by decide) (by decide)) ?_ | refine And.intro (And.intro (Nat.le_of_ble_eq_true rfl) (Nat.le_of_ble_eq_true rfl)) ?_ | refine And.intro (And.intro rfl (And.intro rfl (And.intro rfl rfl))) ?_ | refine And.intro (And.intro rfl (And.intro rfl (Nat.le_of_ble_eq_true rfl))) ?_ | refine And.intro (And.intro rfl (And.intro rfl rfl)) ?_ | refine And.intro trivial ?_ | refine CmpW.t rfl ?_ | refine CmpW.f rfl ?_))
        refine CmpW.t (by simp; omega) ?_
        (repeat (first | refine And.intro rfl ?_ | refine Exists.intro _ (And.intro (wrap_i64 (by first | omega | (simp; done) | (simp; omega)) (by first | omega | (simp; done) | (simp; omega))) ?_) | refine Exists.intro _ (And.intro rfl ?_) | refine And.intro (fun _ => ?_) (fun h => Bool.noConfusion h) | refine And.intro (fun h => Bool.noConfusion h) (fun _ => ?_) | refine And.intro (And.intro (by decide) (by decide)) ?_ | refine And.intro (And.intro (Nat.le_of_ble_eq_true rfl) (Nat.le_of_ble_eq_true rfl)) ?_ | refine And.intro (And.intro rfl (And.intro rfl (And.intro rfl rfl))) ?_ | refine And.intro (And.intro rfl (And.intro rfl (Nat.le_of_ble_eq_true rfl))) ?_ | refine And.intro (And.intro rfl (And.intro rfl rfl)) ?_ | refine And.intro trivial ?_ | refine CmpW.t rfl ?_ | refine CmpW.f rfl ?_))
        refine CmpW.t (by simp; omega) ?_
        (repeat (first | refine And.intro rfl ?_ | refine Exists.intro _ (And.intro (wrap_i64 (by first | omega | (simp; done) | (simp; omega)) (by first | omega | (simp; done) | (simp; omega))) ?_) | refine Exists.intro _ (And.intro rfl ?_) | refine And.intro (fun _ => ?_) (fun h => Bool.noConfusion h) | refine And.intro (fun h => Bool.noConfusion h) (fun _ => ?_) | refine And.intro (And.intro (by decide) (by decide)) ?_ | refine And.intro (And.intro (Nat.le_of_ble_eq_true rfl) (Nat.le_of_ble_eq_true rfl)) ?_ | refine And.intro (And.intro rfl (And.intro rfl (And.intro rfl rfl))) ?_ | refine And.intro (And.intro rfl (And.intro rfl (Nat.le_of_ble_eq_true rfl))) ?_ | refine And.intro (And.intro rfl (And.intro rfl rfl)) ?_ | refine And.intro trivial ?_ | refine CmpW.t rfl ?_ | refine CmpW.f rfl ?_))
        by_cases h1 : n = 1
        · refine CmpW.t (by simp; omega) ?_
          rw [hno]
          simp only [h1]
          (repeat (first | refine And.intro rfl ?_ | refine Exists.intro _ (And.intro (wrap_i64 (by first | omega | (simp; done) | (simp; omega)) (by first | omega | (simp; done) | (simp; omega))) ?_) | refine Exists.intro _ (And.intro rfl ?_) | refine And.intro (fun _ => ?_) (fun h => Bool.noConfusion h) | refine And.intro (fun h => Bool.noConfusion h) (fun _ => ?_) | refine And.intro (And.intro (by decide) (by decide)) ?_ | refine And.intro (And.intro (Nat.le_of_ble_eq_true rfl) (Nat.le_of_ble_eq_true rfl)) ?_ | refine And.intro (And.intro rfl (And.intro rfl (And.intro rfl rfl))) ?_ | refine And.intro (And.intro rfl (And.intro rfl (Nat.le_of_ble_eq_true rfl))) ?_ | refine And.intro (And.intro rfl (And.intro rfl rfl)) ?_ | refine And.intro trivial ?_ | refine CmpW.t rfl ?_ | refine CmpW.f rfl ?_))
          refine RetW.plain (by simp) ?_
          rfl
        · refine CmpW.f (by simp; omega) ?_
          rw [hno]
          simp only [h1]
          (repeat (first | refine And.intro rfl ?_ | refine Exists.intro _ (And.intro (wrap_i64 (by first | omega | (simp; done) | (simp; omega)) (by first | omega | (simp; done) | (simp; omega))) ?_) | refine Exists.intro _ (And.intro rfl ?_) | refine And.intro (fun _ => ?_) (fun h => Bool.noConfusion h) | refine And.intro (fun h => Bool.noConfusion h) (fun _ => ?_) | refine And.intro (And.intro (by decide) (by decide)) ?_ | refine And.intro (And.intro (Nat.le_of_ble_eq_true rfl) (Nat.le_of_ble_eq_true rfl)) ?_ | refine And.intro (And.intro rfl (And.intro rfl (And.intro rfl rfl))) ?_ | refine And.intro (And.intro rfl (And.intro rfl (Nat.le_of_ble_eq_true rfl))) ?_ | refine And.intro (And.intro rfl (And.intro rfl rfl)) ?_ | refine And.intro trivial ?_ | refine CmpW.t rfl ?_ | refine CmpW.f rfl ?_))
          refine RetW.plain (by simp) ?_
          rfl
end
end Go.Proofs.YtjbkhjjaajhjaaaDoor
