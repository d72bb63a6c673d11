/- Sorting ranges: the pivot's choice. -/
import Derived.Test.YtijdnjngfkohfaaGreatDoorJ10
set_option linter.unusedVariables false
set_option linter.unusedSimpArgs false
set_option maxRecDepth 100000
set_option maxHeartbeats 4000000

namespace Go.Proofs.YtijdnjngfkohfaaGreatDoor
open Go Go.Abs
attribute [local irreducible] DrawW CallW RetW AC Does CmpW
variable {G : Globs}
theorem med_le (d : Array Rg) (a b c n : Nat) : ((Sort.median ltR d a b c n).1 = a ∨ (Sort.median ltR d a b c n).1 = b ∨ (Sort.median ltR d a b c n).1 = c) ∧ (Sort.median ltR d a b c n).2 ≤ n + 3 := by
  have o1 := ord_le d a b n
  have o2 := ord_le d (Sort.order2 ltR d a b n).2.1 c (Sort.order2 ltR d a b n).2.2
  have o3 := ord_le d (Sort.order2 ltR d a b n).1 (Sort.order2 ltR d (Sort.order2 ltR d a b n).2.1 c (Sort.order2 ltR d a b n).2.2).1 (Sort.order2 ltR d (Sort.order2 ltR d a b n).2.1 c (Sort.order2 ltR d a b n).2.2).2.2
  unfold Sort.median
  simp only
  omega
theorem med_call (d : Array Rg) (a b c n ver v : Nat) (ha : a < d.size) (hb : b < d.size) (hc : c < d.size) (hn : n < 100000) (hs : d.size < 1000000) {K KP : AV → AHeap → Prop}
    (hk : K (.int .i64 (Sort.median ltR d a b c n).1) [some (rgs ver d), some (cntO v (Sort.median ltR d a b c n).2)]) :
    CallW Tryz.prog G 248 [.sl 0 ver, .int .i64 a, .int .i64 b, .int .i64 c, .ptr 1 v 0 0, cmpV] [some (rgs ver d), some (cntO v n)] K KP := by
  refine CallW.of2 0 1 (medR_does d a b c n ver v ha hb hc hn hs) (by decide) rfl rfl (rgs_closed _ _) rfl rfl rfl ?_
  rintro ae O ⟨rfl, rfl⟩
  exact ⟨_, _, rfl, rgs_closed _ _, rfl, rfl, hk⟩
theorem adjR_does (d : Array Rg) (a n ver v : Nat) (ha1 : 1 ≤ a) (ha : a + 1 < d.size) (hn : n < 100000) (hs : d.size < 1000000) :
    Does Tryz.prog G 247 [.sl 0 ver, .int .i64 a, .ptr 1 v 0 0, cmpV] [some (rgs ver d), some (cntO v n)] fun ae O =>
      ae = .ret (.int .i64 (Sort.medianAdjacent ltR d a n).1) ∧ O = [some (rgs ver d), some (cntO v (Sort.medianAdjacent ltR d a n).2)] := by
  refine Does.body tab Tryz.func247 rfl rfl ?_
  (repeat (first | refine gof ?_ | refine fun (vv : Nat) => ?_))
  rw [show (a : Int) - 1 = ((a - 1 : Nat) : Int) by omega, show (a : Int) + 1 = ((a + 1 : Nat) : Int) by omega]
  refine med_call d (a - 1) a (a + 1) n ver v (by omega) (by omega) (by omega) hn hs ?_
  (repeat (first | refine gof ?_ | refine fun (vv : Nat) => ?_))
  refine RetW.plain (by simp) ?_
  exact ⟨rfl, rfl⟩
theorem adj_call (d : Array Rg) (a n ver v : Nat) (ha1 : 1 ≤ a) (ha : a + 1 < d.size) (hn : n < 100000) (hs : d.size < 1000000) {K KP : AV → AHeap → Prop}
    (hk : K (.int .i64 (Sort.medianAdjacent ltR d a n).1) [some (rgs ver d), some (cntO v (Sort.medianAdjacent ltR d a n).2)]) :
    CallW Tryz.prog G 247 [.sl 0 ver, .int .i64 a, .ptr 1 v 0 0, cmpV] [some (rgs ver d), some (cntO v n)] K KP := by
  refine CallW.of2 0 1 (adjR_does d a n ver v ha1 ha hn hs) (by decide) rfl rfl (rgs_closed _ _) rfl rfl rfl ?_
  rintro ae O ⟨rfl, rfl⟩
  exact ⟨_, _, rfl, rgs_closed _ _, rfl, rfl, hk⟩
theorem adj_le (d : Array Rg) (a n : Nat) : (Sort.medianAdjacent ltR d a n).1 ≤ a + 1 ∧ a - 1 ≤ (Sort.medianAdjacent ltR d a n).1 ∧ (Sort.medianAdjacent ltR d a n).2 ≤ n + 3 := by
  have h := med_le d (a - 1) a (a + 1) n
  unfold Sort.medianAdjacent
  omega
def hintN : Sort.Hint → Int
  | .unknown => 0
  | .increasing => 1
  | .decreasing => 2
theorem quo4 (l : Nat) (h : l < 1000000) : IntKind.i64.wrap ((l : Int).tdiv 4) = ((l / 4 : Nat) : Int) := by
  have e2 : (l : Int).tdiv 4 = ((l / 4 : Nat) : Int) := rfl
  rw [e2, wrap_i64 (by omega) (by omega)]
theorem choR_does (d : Array Rg) (a b ver : Nat) (hab : a < b) (hb : b ≤ d.size) (hs : d.size < 1000000) :
    Does Tryz.prog G 195 [.sl 0 ver, .int .i64 a, .int .i64 b, cmpV] [some (rgs ver d)] fun ae O =>
      ae = .ret (.tuple [.int .i64 (Sort.choosePivot ltR d a b).1, .int .i64 (hintN (Sort.choosePivot ltR d a b).2)]) ∧ O = [some (rgs ver d)] := by
  refine Does.bodyA tab Tryz.func195 rfl rfl ?_
  refine AC.step tab ?_
  refine gos ?_
  refine AC.step tab ?_
  refine gos ?_
  refine AC.step tab ?_
  refine gos ?_
  obtain ⟨l, hl⟩ : ∃ l, l = b - a := ⟨_, rfl⟩
  simp only [show (b : Int) - (a : Int) = (l : Int) by omega]
  intro v
  refine gos ?_
  refine AC.step tab ?_
  refine gos ?_
  refine And.intro (by decide) ?_
  refine gos ?_
  refine AC.step tab ?_
  refine gos ?_
  refine And.intro (by decide) ?_
  refine gos ?_
  refine AC.step tab ?_
  refine gos ?_
  refine And.intro (by decide) ?_
  refine gos ?_
  have q4 : (l : Int).tdiv 4 = ((l / 4 : Nat) : Int) := rfl
  obtain ⟨i, hi⟩ : ∃ i, i = a + l / 4 * 1 := ⟨_, rfl⟩
  obtain ⟨j, hj⟩ : ∃ j, j = a + l / 4 * 2 := ⟨_, rfl⟩
  obtain ⟨k, hk⟩ : ∃ k, k = a + l / 4 * 3 := ⟨_, rfl⟩
  have hc : ∃ r : Nat × Nat, r = (if l ≥ 8 then
      if l ≥ 50 then
        let ri := Sort.medianAdjacent ltR d i 0
        let rj := Sort.medianAdjacent ltR d j ri.2
        let rk := Sort.medianAdjacent ltR d k rj.2
        Sort.median ltR d ri.1 rj.1 rk.1 rk.2
      else Sort.median ltR d i j k 0
    else (j, 0)) := ⟨_, rfl⟩
  obtain ⟨r, hr⟩ := hc
  have hcp : Sort.choosePivot ltR d a b = (r.1, if r.2 = 0 then .increasing else if r.2 = 12 then .decreasing else .unknown) := by
    rw [hr, hi, hj, hk, hl]
    rfl
  refine AC.cutF tab (fun e h => e = [.sl 0 ver, .any, .any, cmpV, .any, .any, .any, .any, .int .i64 0, .int .i64 0, .any, .ptr 1 v 0 0, .any, .int .i64 r.1] ++ List.replicate 49 .any ∧ h = [some (rgs ver d), some (cntO v r.2)]) ?_ ?_
  · simp only [q4, ← Int.natCast_mul, ← Int.natCast_add, show ((l / 4 : Nat) : Int) * 1 = ((l / 4 * 1 : Nat) : Int) by omega, show ((l / 4 : Nat) : Int) * 2 = ((l / 4 * 2 : Nat) : Int) by omega, show ((l / 4 : Nat) : Int) * 3 = ((l / 4 * 3 : Nat) : Int) by omega]
    simp only [← hi, ← hj, ← hk]
    refine gos ?_
    by_cases h8 : 8 ≤ l
    · refine CmpW.T ?_
      rw [if_pos h8] at hr
      refine gos ?_
      by_cases h50 : 50 ≤ l
      · refine CmpW.T ?_
        rw [if_pos h50] at hr
        simp only at hr
        refine gos ?_
        have m1 := adj_le d i 0
        refine adj_call d i 0 ver v (by omega) (by omega) (by omega) hs ?_
        generalize Sort.medianAdjacent ltR d i 0 = r1 at hr m1 ⊢
        obtain ⟨r11, r12⟩ := r1
        simp only at hr m1 ⊢
        refine gos ?_
        have m2 := adj_le d j r12
        refine adj_call d j r12 ver v (by omega) (by omega) (by omega) hs ?_
        generalize Sort.medianAdjacent ltR d j r12 = r2 at hr m2 ⊢
        obtain ⟨r21, r22⟩ := r2
        simp only at hr m2 ⊢
        refine gos ?_
        have m3 := adj_le d k r22
        refine adj_call d k r22 ver v (by omega) (by omega) (by omega) hs ?_
        generalize Sort.medianAdjacent ltR d k r22 = r3 at hr m3 ⊢
        obtain ⟨r31, r32⟩ := r3
        simp only at hr m3 ⊢
        refine gos ?_
        refine med_call d r11 r21 r31 r32 ver v (by omega) (by omega) (by omega) (by omega) hs ?_
        rw [← hr]
        refine gos ?_
        exact ⟨_, 2, fgts, rfl, rfl⟩
      · refine CmpW.N ?_
        rw [if_neg h50] at hr
        refine gos ?_
        refine med_call d i j k 0 ver v (by omega) (by omega) (by omega) (by omega) hs ?_
        rw [← hr]
        refine gos ?_
        exact ⟨_, 2, fgts, rfl, rfl⟩
    · refine CmpW.N ?_
      rw [if_neg h8] at hr
      refine gos ?_
      subst hr
      exact ⟨_, 2, fgts, rfl, rfl⟩
  rintro e h ⟨rfl, rfl⟩
  rw [hcp]
  simp only
  refine AC.step tab ?_
  refine gos ?_
  refine AC.go tab ?_
  refine gos ?_
  by_cases h0 : r.2 = 0
  · refine CmpW.T ?_
    rw [if_pos h0]
    refine gos ?_
    refine RetW.plain (by simp) ?_
    exact ⟨rfl, rfl⟩
  · refine CmpW.N ?_
    rw [if_neg h0]
    refine gos ?_
    by_cases h12 : r.2 = 12
    · refine CmpW.T ?_
      rw [if_pos h12]
      refine gos ?_
      refine RetW.plain (by simp) ?_
      exact ⟨rfl, rfl⟩
    · refine CmpW.N ?_
      rw [if_neg h12]
      refine gos ?_
      refine RetW.plain (by simp) ?_
      exact ⟨rfl, rfl⟩
end Go.Proofs.YtijdnjngfkohfaaGreatDoor
