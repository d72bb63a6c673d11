/- Sorting ranges: the pivot's small steps. -/
import Derived.Test.YtijdnjngfkohfaaGreatDoorJ09
set_option linter.unusedVariables false
set_option linter.unusedSimpArgs false
set_option maxRecDepth 100000
set_option maxHeartbeats 4000000

namespace Go.Proofs.YtijdnjngfkohfaaGreatDoor
open Go Go.Abs
attribute [local irreducible] DrawW CallW RetW AC Does CmpW
variable {G : Globs}
def cntO (v : Nat) (n : Nat) : AObj := ⟨v, 3, 1, [[.int .i64 n]]⟩
theorem ordR_does (d : Array Rg) (a b n ver v : Nat) (ha : a < d.size) (hb : b < d.size) (hn : n < 1000000) (hs : d.size < 1000000) :
    Does Tryz.prog G 267 [.sl 0 ver, .int .i64 a, .int .i64 b, .ptr 1 v 0 0, cmpV] [some (rgs ver d), some (cntO v n)] fun ae O =>
      ae = .ret (.tuple [.int .i64 (Sort.order2 ltR d a b n).1, .int .i64 (Sort.order2 ltR d a b n).2.1]) ∧ O = [some (rgs ver d), some (cntO v (Sort.order2 ltR d a b n).2.2)] := by
  refine Does.body tab Tryz.func267 rfl rfl ?_
  refine gos ?_
  refine DrawW.L ?_
  (repeat (first | refine gof ?_ | refine fun (vv : Nat) => ?_))
  refine And.intro (And.intro (by omega) (by first | (rw [rgs_len]; omega) | (simp only [List.length_set]; rw [rgs_len]; omega))) ?_
  (repeat (first | refine gof ?_ | refine fun (vv : Nat) => ?_))
  refine ⟨encG d[b]!, rgs_get hb, ?_⟩
  (repeat (first | refine gof ?_ | refine fun (vv : Nat) => ?_))
  refine And.intro (And.intro (by omega) (by first | (rw [rgs_len]; omega) | (simp only [List.length_set]; rw [rgs_len]; omega))) ?_
  (repeat (first | refine gof ?_ | refine fun (vv : Nat) => ?_))
  refine ⟨encG d[a]!, rgs_get ha, ?_⟩
  (repeat (first | refine gof ?_ | refine fun (vv : Nat) => ?_))
  refine CallW.pure (cmpR_does d[b]! d[a]!) rfl rfl ?_
  (repeat (first | refine gof ?_ | refine fun (vv : Nat) => ?_))
  cases h : ltR d[b]! d[a]! with
  | true =>
    refine CmpW.t (ltR_t h) ?_
    (repeat (first | refine gof ?_ | refine fun (vv : Nat) => ?_))
    refine RetW.plain (by simp) ?_
    simp only [Sort.order2, h, if_true]
    (first | exact ⟨rfl, rfl⟩ | exact ⟨trivial, rfl⟩ | exact ⟨rfl, trivial⟩ | rfl | trivial | done)
  | false =>
    refine CmpW.f (ltR_f h) ?_
    (repeat (first | refine gof ?_ | refine fun (vv : Nat) => ?_))
    refine RetW.plain (by simp) ?_
    simp only [Sort.order2, h, Bool.false_eq_true, if_false]
    (first | exact ⟨rfl, rfl⟩ | exact ⟨trivial, rfl⟩ | exact ⟨rfl, trivial⟩ | rfl | trivial | done)
theorem ord_le (d : Array Rg) (a b n : Nat) : ((Sort.order2 ltR d a b n).1 = a ∨ (Sort.order2 ltR d a b n).1 = b) ∧ ((Sort.order2 ltR d a b n).2.1 = a ∨ (Sort.order2 ltR d a b n).2.1 = b) ∧ (Sort.order2 ltR d a b n).2.2 ≤ n + 1 := by
  unfold Sort.order2
  split <;> simp
theorem medR_does (d : Array Rg) (a b c n ver v : Nat) (ha : a < d.size) (hb : b < d.size) (hc : c < d.size) (hn : n < 100000) (hs : d.size < 1000000) :
    Does Tryz.prog G 248 [.sl 0 ver, .int .i64 a, .int .i64 b, .int .i64 c, .ptr 1 v 0 0, cmpV] [some (rgs ver d), some (cntO v n)] fun ae O =>
      ae = .ret (.int .i64 (Sort.median ltR d a b c n).1) ∧ O = [some (rgs ver d), some (cntO v (Sort.median ltR d a b c n).2)] := by
  refine Does.body tab Tryz.func248 rfl rfl ?_
  have call : ∀ (a b n : Nat) (K KP : AV → AHeap → Prop), a < d.size → b < d.size → n < 1000000 →
      K (.tuple [.int .i64 (Sort.order2 ltR d a b n).1, .int .i64 (Sort.order2 ltR d a b n).2.1]) [some (rgs ver d), some (cntO v (Sort.order2 ltR d a b n).2.2)] →
      CallW Tryz.prog G 267 [.sl 0 ver, .int .i64 a, .int .i64 b, .ptr 1 v 0 0, cmpV] [some (rgs ver d), some (cntO v n)] K KP := by
    intro a b n K KP ha hb hn hk
    refine CallW.of2 0 1 (ordR_does d a b n ver v ha hb hn hs) (by decide) rfl rfl (rgs_closed _ _) rfl rfl rfl ?_
    rintro ae O ⟨rfl, rfl⟩
    exact ⟨_, _, rfl, rgs_closed _ _, rfl, rfl, hk⟩
  refine gos ?_
  have o1 := ord_le d a b n
  refine call a b n _ _ ha hb (by omega) ?_
  unfold Sort.median
  simp only
  generalize Sort.order2 ltR d a b n = r1 at o1 ⊢
  obtain ⟨r11, r12, r13⟩ := r1
  simp only at o1 ⊢
  refine gos ?_
  have o2 := ord_le d r12 c r13
  refine call r12 c r13 _ _ (by omega) hc (by omega) ?_
  generalize Sort.order2 ltR d r12 c r13 = r2 at o2 ⊢
  obtain ⟨r21, r22, r23⟩ := r2
  simp only at o2 ⊢
  refine gos ?_
  refine call r11 r21 r23 _ _ (by omega) (by omega) (by omega) ?_
  generalize Sort.order2 ltR d r11 r21 r23 = r3
  obtain ⟨r31, r32, r33⟩ := r3
  simp only
  refine gos ?_
  refine RetW.plain (by simp) ?_
  exact ⟨rfl, rfl⟩
end Go.Proofs.YtijdnjngfkohfaaGreatDoor
