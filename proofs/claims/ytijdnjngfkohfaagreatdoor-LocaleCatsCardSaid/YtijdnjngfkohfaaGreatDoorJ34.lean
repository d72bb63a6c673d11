/- One thing of a table that is turned. -/
import Derived.Test.YtijdnjngfkohfaaGreatDoorJ33
import Derived.Test.YtijdnjngfkohfaaGreatDoorJ27
set_option linter.unusedVariables false
set_option linter.unusedSimpArgs false
set_option maxRecDepth 100000
set_option maxHeartbeats 4000000

namespace Go.Proofs.YtijdnjngfkohfaaGreatDoor
open Go Go.Abs
attribute [local irreducible] DrawW CallW RetW AC Does CmpW
variable {G : Globs}
def andI (a b : Int) : Int := IntKind.i64.wrap (BitVec.ofInt IntKind.i64.bits a &&& BitVec.ofInt IntKind.i64.bits b).toNat
def digSet (d : TDig) (i : Nat) (s : List UInt8) : TDig := match i with
  | 0 => { d with d0 := s }
  | 1 => { d with d1 := s }
  | 2 => { d with d2 := s }
  | 3 => { d with d3 := s }
  | 4 => { d with d4 := s }
  | 5 => { d with d5 := s }
  | 6 => { d with d6 := s }
  | 7 => { d with d7 := s }
  | 8 => { d with d8 := s }
  | _ => { d with d9 := s }
def someT (n : Int) (s : List UInt8) : List TTxt := [⟨andI n 7, s⟩]
def curS (s : List UInt8) (n : Int) : TCur := ⟨s, s, [], [], n, 0, 0, 0⟩
def curC (s : List UInt8) (n : Int) : List AV := [.str s, .str s, .str [], .nils, .int .i64 n, .int .i64 0, .int .i64 0, .int .i64 0]
def curX (s : List UInt8) (n : Int) : TCur := ⟨[88, 88, 88], [], s, someT n s, 0, 0, 0, n⟩
def turnI (k i : Nat) (n : Int) (s : List UInt8) (t : TTab) : TTab := match k with
  | 0 => { t with dg := digSet t.dg i s }
  | 1 => { t with minus := s }
  | 2 => { t with percent := s }
  | 3 => { t with point := s }
  | 4 => { t with comma := s }
  | 5 => { t with decimal := s }
  | 6 => { t with per := s }
  | 7 => { t with money := s }
  | 8 => { t with account := s }
  | 9 => { t with rules := s }
  | 10 => { t with before := { t.before with cur := s } }
  | 11 => { t with before := { t.before with num := s } }
  | 12 => { t with before := { t.before with ins := s } }
  | 13 => { t with after := { t.after with cur := s } }
  | 14 => { t with after := { t.after with num := s } }
  | 15 => { t with minGroup := n }
  | 16 => { t with short := t.short ++ [⟨andI n 31, oneT s⟩] }
  | 17 => { t with short := ⟨andI n 3, oneT s⟩ :: t.short }
  | 18 => { t with long := [⟨andI n 127, someT n s ++ oneT [48, 32, 120]⟩] }
  | 19 => { t with mshort := [⟨5, someT n s ++ oneT [194, 164, 48, 48, 32, 120]⟩] }
  | 20 => { t with curs := t.curs ++ [curS s n] }
  | 21 => { t with curs := [curX s n] }
  | 22 => { t with units := t.units ++ [⟨s, oneT [123, 48, 125]⟩] }
  | 23 => { t with units := [⟨[120], someT n s⟩] }
  | _ => { t with munit := someT n s ++ oneT [123, 49, 125, 32, 123, 48, 125] }
def twk (w : Int) : Nat := ((IntKind.u64.wrap w).tmod 25).toNat
def twi (n : Int) : Nat := ((IntKind.u64.wrap n).tmod 10).toNat
def turnF (w n : Int) (s : List UInt8) (t : TTab) : TTab := turnI (twk w) (twi n) n s t
theorem u64_nn (n : Int) : 0 ≤ IntKind.u64.wrap n := by
  unfold IntKind.wrap
  simp only [IntKind.bits, IntKind.signed]
  simp
  omega
theorem tmod_nat (n m : Int) (hm : 0 < m) : (IntKind.u64.wrap n).tmod m = (((IntKind.u64.wrap n).tmod m).toNat : Int) ∧ ((IntKind.u64.wrap n).tmod m).toNat < m.toNat := by
  have h := u64_nn n
  rw [Int.tmod_eq_emod_of_nonneg h]
  have h1 := Int.emod_nonneg (IntKind.u64.wrap n) (Int.ne_of_gt hm)
  have h2 := Int.emod_lt_of_pos (IntKind.u64.wrap n) hm
  omega
def ptrsT (v i : Nat) : List (List AV) := [[.ptr 1 v 0 i], [.ptr 1 v 0 10], [.ptr 1 v 0 12], [.ptr 1 v 0 14], [.ptr 1 v 0 15], [.ptr 1 v 0 17], [.ptr 1 v 0 18], [.ptr 1 v 0 19], [.ptr 1 v 0 20], [.ptr 1 v 0 21], [.ptr 1 v 0 28], [.ptr 1 v 0 29], [.ptr 1 v 0 30], [.ptr 1 v 0 31], [.ptr 1 v 0 32]]
theorem encR_ones (l : List TRow) : ∀ y ∈ l.map encR, ones y = true := fun y hy => by obtain ⟨z, _, rfl⟩ := List.mem_map.1 hy; rfl
theorem encT_ones (l : List TTxt) : ∀ y ∈ l.map encT, ones y = true := fun y hy => by obtain ⟨z, _, rfl⟩ := List.mem_map.1 hy; rfl
theorem encCu_ones (l : List TCur) : ∀ y ∈ l.map encCu, ones y = true := fun y hy => by obtain ⟨z, _, rfl⟩ := List.mem_map.1 hy; rfl
theorem encU_ones (l : List TUnt) : ∀ y ∈ l.map encU, ones y = true := fun y hy => by obtain ⟨z, _, rfl⟩ := List.mem_map.1 hy; rfl
theorem closedLL_map {α : Type} {f : α → List AV} (h : ∀ x, closedL (f x) = true) : ∀ l : List α, closedLL (l.map f) = true
  | [] => rfl
  | x :: l => by
    have := closedLL_map h l
    simp [closedLL, h x, this]
theorem Turn_does (w n : Int) (s : List UInt8) (t : TTab) (h1 : t.short.length ≤ 50000) (h2 : t.curs.length ≤ 50000) (h3 : t.units.length ≤ 50000) :
    Does Tryz.prog G 24 [.agg [.int .i64 w, .int .i64 n, .str s], .agg (tabC t)] [] fun ae _ => ae = .ret (.agg (tabC (turnF w n s t))) := by
  obtain ⟨hk, hk2⟩ := tmod_nat w 25 (by omega)
  obtain ⟨hi, hi2⟩ := tmod_nat n 10 (by omega)
  have hF : turnF w n s t = turnI ((IntKind.u64.wrap w).tmod 25).toNat ((IntKind.u64.wrap n).tmod 10).toNat n s t := rfl
  generalize ((IntKind.u64.wrap w).tmod 25).toNat = k at hk hk2 hF
  generalize ((IntKind.u64.wrap n).tmod 10).toNat = i at hi hi2 hF
  have hk2 : k < 25 := hk2
  have hi2 : i < 10 := hi2
  rw [hF]
  clear hF
  refine Does.bodyA tab Tryz.func24 rfl rfl ?_
  refine AC.step tab ?_
  refine gos ?_
  intro v0
  refine gos ?_
  intro v1
  refine gos ?_
  intro v2
  refine gos ?_
  refine AC.wk (Wk.ptr (k := 2) (i := 0) rfl rfl rfl rfl rfl) ?_
  refine AC.cutF tab (fun e h => ∃ v3, e = [.any, .any, .fptr [.int .i64 w, .int .i64 n, .str s], .ptr 1 v1 0 0, .ptr 2 v2 0 0, .sl 3 v3] ++ List.replicate 167 .any ∧
    h = [none, some ⟨v1, 62, 34, [tabC t]⟩, some ⟨v2, 62, 34, [zeroC]⟩, some ⟨v3, 151, 1, ptrsT v1 i⟩]) ?_ ?_
  · refine gos ?_
    refine And.intro (by decide) ⟨(i : Int), hi, ?_⟩
    refine gos ?_
    refine And.intro ⟨by omega, by omega⟩ ?_
    refine gos ?_
    intro v3
    refine gos ?_
    refine ⟨_, 4, fgts, v3, rfl, ?_⟩
    have e1 : ptrsT v1 i = ptrsT v1 (0 + (i : Int).toNat * 1) := congrArg _ (by omega)
    rw [e1]
    rfl
  rintro e h ⟨v3, rfl, rfl⟩
  refine AC.cutF tab (fun e h => e = [.any, .any, .fptr [.int .i64 w, .int .i64 n, .str s], .ptr 1 v1 0 0, .ptr 2 v2 0 0, .sl 3 v3, .int .i64 k] ++ List.replicate 166 .any ∧
    h = [none, some ⟨v1, 62, 34, [tabC t]⟩, some ⟨v2, 62, 34, [zeroC]⟩, some ⟨v3, 151, 1, ptrsT v1 i⟩]) ?_ ?_
  · refine ⟨_, rfl, ?_⟩
    refine And.intro rfl ⟨15, rfl, ?_⟩
    refine And.intro rfl ⟨25, rfl, ?_⟩
    refine ⟨25, rfl, ?_⟩
    refine And.intro rfl ?_
    refine And.intro (by decide) ⟨(k : Int), hk, ?_⟩
    refine gos ?_
    exact ⟨_, 4, fgts, rfl, rfl⟩
  rintro e h ⟨rfl, rfl⟩
  by_cases hk15 : k < 15
  · have : k = 0 ∨ k = 1 ∨ k = 2 ∨ k = 3 ∨ k = 4 ∨ k = 5 ∨ k = 6 ∨ k = 7 ∨ k = 8 ∨ k = 9 ∨ k = 10 ∨ k = 11 ∨ k = 12 ∨ k = 13 ∨ k = 14 := by omega
    clear hk15 hk2
    rcases this with rfl | rfl | rfl | rfl | rfl | rfl | rfl | rfl | rfl | rfl | rfl | rfl | rfl | rfl | rfl
    · have : i = 0 ∨ i = 1 ∨ i = 2 ∨ i = 3 ∨ i = 4 ∨ i = 5 ∨ i = 6 ∨ i = 7 ∨ i = 8 ∨ i = 9 := by omega
      clear hi2
      rcases this with rfl | rfl | rfl | rfl | rfl | rfl | rfl | rfl | rfl | rfl
      all_goals
        refine AC.step tab ?_
        refine gos ?_
        refine DrawW.L ?_
        refine gos ?_
        refine And.intro (And.intro (by decide) (by simp [ptrsT])) ?_
        refine gos ?_
        refine RetW.plain (by simp) ?_
        rfl
    all_goals
      refine AC.step tab ?_
      refine gos ?_
      refine DrawW.L ?_
      refine gos ?_
      refine And.intro (And.intro (by decide) (by simp [ptrsT])) ?_
      refine gos ?_
      refine RetW.plain (by simp) ?_
      rfl
  have hk16 : k = 15 ∨ k = 16 ∨ k = 17 ∨ k = 18 ∨ k = 19 ∨ k = 20 ∨ k = 21 ∨ k = 22 ∨ k = 23 ∨ k = 24 := by omega
  clear hk2
  refine AC.cutF tab (fun e h => e = [.any, .any, .fptr [.int .i64 w, .int .i64 n, .str s], .ptr 1 v1 0 0, .ptr 2 v2 0 0, .sl 3 v3, .int .i64 k] ++ List.replicate 166 .any ∧
    h = [none, some ⟨v1, 62, 34, [tabC t]⟩, some ⟨v2, 62, 34, [zeroC]⟩, some ⟨v3, 151, 1, ptrsT v1 i⟩]) ?_ ?_
  · refine gos ?_
    refine CmpW.f (by simp [ptrsT]; omega) ?_
    refine gos ?_
    exact ⟨_, 4, fgts, rfl, rfl⟩
  rintro e h ⟨rfl, rfl⟩
  clear hk15
  refine AC.cutF tab (fun e h => ∃ v4, e = [.any, .any, .fptr [.int .i64 w, .int .i64 n, .str s], .ptr 1 v1 0 0, .ptr 2 v2 0 0, .sl 3 v3, .int .i64 k, .sl 4 v4] ++ List.replicate 165 .any ∧
    h = [none, some ⟨v1, 62, 34, [tabC t]⟩, some ⟨v2, 62, 34, [zeroC]⟩, some ⟨v3, 151, 1, ptrsT v1 i⟩, some ⟨v4, 127, 2, [[.int .i64 (andI n 7), .str s]]⟩]) ?_ ?_
  · refine gos ?_
    intro v4
    refine gos ?_
    exact ⟨_, 5, fgts, v4, rfl, rfl⟩
  rintro e h ⟨v4, rfl, rfl⟩
  have lr : (t.short.map encR).length = t.short.length := by simp
  have lc : (t.curs.map encCu).length = t.curs.length := by simp
  have lu : (t.units.map encU).length = t.units.length := by simp
  rcases hk16 with rfl | rfl | rfl | rfl | rfl | rfl | rfl | rfl | rfl | rfl
  · -- the least group
    refine AC.step tab ?_
    refine gos ?_
    refine gos ?_
    refine AC.go tab ?_
    refine gos ?_
    refine RetW.plain (by simp) ?_
    rfl
  · -- a row behind
    refine AC.cutF tab (fun e h => ∃ vv, e = [.any, .any, .any, .ptr 1 v1 0 0, .ptr 2 v2 0 0] ++ List.replicate 168 .any ∧
      h = [none, some ⟨v1, 62, 34, [(tabC t).set 22 (.sl 5 vv)]⟩, some ⟨v2, 62, 34, [zeroC]⟩, some ⟨v3, 151, 1, ptrsT v1 i⟩, some ⟨v4, 127, 2, [[.int .i64 (andI n 7), .str s]]⟩, some ⟨vv, 125, 2, (t.short ++ [(⟨andI n 31, oneT s⟩ : TRow)]).map encR⟩]) ?_ ?_
    · refine gos ?_
      refine DrawW.P (.take 1 (.take 4 (.takeF 5 (.take 6 (.take 7 (.takeF 8 (.fork (.cons 0 (.take 2 (.take 3 (.take 9 (.take 10 (.take 11 (.take 12 (.take 13 (.take 14 .done)))))))) (.cons 2 (.take 0 (.take 3 (.take 9 (.take 10 (.take 11 (.take 12 (.take 13 (.take 14 .done)))))))) .nil))))))))) ?_
      (repeat' (first | exact trivial | refine CallW.pure (One_does _) rfl rfl ?_ | refine And.intro (And.intro (encR_two _) (encR_ones _)) ?_ | refine And.intro (And.intro rfl trivial) ?_ | refine gof ?_ | refine fun (vv : Nat) => ?_ | refine And.intro ?_ ?_))
      all_goals
        refine gos ?_
        exact ⟨_, 6, fgts, vv, rfl, by rw [List.map_append]; rfl⟩
    rintro e h ⟨vv, rfl, rfl⟩
    refine AC.rowC 5 1 0 22 rfl rfl (by omega) rfl rfl rfl (closedLL_map (fun _ => rfl) _) ?_
    refine AC.go tab ?_
    refine gos ?_
    refine RetW.plain (by simp) ?_
    rfl
  · -- a row ahead
    refine AC.cutF tab (fun e h => ∃ vv, e = [.any, .any, .any, .ptr 1 v1 0 0, .ptr 2 v2 0 0] ++ List.replicate 168 .any ∧
      h = [none, some ⟨v1, 62, 34, [(tabC t).set 22 (.sl 5 vv)]⟩, some ⟨v2, 62, 34, [zeroC]⟩, some ⟨v3, 151, 1, ptrsT v1 i⟩, some ⟨v4, 127, 2, [[.int .i64 (andI n 7), .str s]]⟩, some ⟨vv, 125, 2, ((⟨andI n 3, oneT s⟩ : TRow) :: t.short).map encR⟩]) ?_ ?_
    · refine gos ?_
      refine DrawW.P (.take 0 (.takeF 1 (.take 2 (.take 3 (.takeF 4 (.take 8 (.fork (.cons 5 (.take 6 (.fork (.cons 7 (.take 9 (.take 10 (.take 11 (.take 12 .done)))) (.cons 9 (.take 7 (.take 10 (.take 11 (.take 12 .done)))) .nil)))) (.cons 9 (.take 5 (.take 6 (.take 7 (.take 10 (.take 11 (.take 12 .done)))))) .nil))))))))) ?_
      (repeat' (first | exact trivial | refine CallW.pure (One_does _) rfl rfl ?_ | refine And.intro (And.intro (encR_two _) (encR_ones _)) ?_ | refine And.intro (And.intro rfl trivial) ?_ | refine gof ?_ | refine fun (vv : Nat) => ?_ | refine And.intro ?_ ?_))
      all_goals
        refine gos ?_
        exact ⟨_, 6, fgts, vv, rfl, rfl⟩
    rintro e h ⟨vv, rfl, rfl⟩
    refine AC.rowC 5 1 0 22 rfl rfl (by omega) rfl rfl rfl (closedLL_map (fun _ => rfl) _) ?_
    refine AC.go tab ?_
    refine gos ?_
    refine RetW.plain (by simp) ?_
    rfl
  · -- one long row
    refine AC.cutF tab (fun e h => ∃ vu vv, e = [.any, .any, .any, .ptr 1 v1 0 0, .ptr 2 v2 0 0] ++ List.replicate 168 .any ∧
      h = [none, some ⟨v1, 62, 34, [(tabC t).set 23 (.sl 5 vv)]⟩, some ⟨v2, 62, 34, [zeroC]⟩, some ⟨v3, 151, 1, ptrsT v1 i⟩, some ⟨vu, 127, 2, (someT n s ++ oneT [48, 32, 120]).map encT⟩, some ⟨vv, 125, 2, [[.int .i64 (andI n 127), .sl 4 vu]]⟩]) ?_ ?_
    · refine gos ?_
      refine DrawW.P (.take 0 (.takeF 1 (.take 2 (.take 3 (.take 4 (.take 5 (.take 6 (.take 7 (.take 8 (.take 9 .done)))))))))) ?_
      (repeat' (first | exact trivial | refine CallW.pure (One_does _) rfl rfl ?_ | refine And.intro (And.intro (encT_two _) (encT_ones _)) ?_ | refine And.intro (And.intro rfl trivial) ?_ | refine gof ?_ | refine fun (vv : Nat) => ?_ | refine And.intro ?_ ?_))
      all_goals
        refine gos ?_
        exact ⟨_, 6, fgts, _, _, rfl, rfl⟩
    rintro e h ⟨vu, vv, rfl, rfl⟩
    refine AC.rowC 4 5 0 1 rfl rfl (by omega) rfl rfl rfl rfl ?_
    refine AC.rowC 5 1 0 23 rfl rfl (by omega) rfl rfl rfl rfl ?_
    refine AC.go tab ?_
    refine gos ?_
    refine RetW.plain (by simp) ?_
    rfl
  · -- one row of money
    refine AC.cutF tab (fun e h => ∃ vu vv, e = [.any, .any, .any, .ptr 1 v1 0 0, .ptr 2 v2 0 0] ++ List.replicate 168 .any ∧
      h = [none, some ⟨v1, 62, 34, [(tabC t).set 24 (.sl 5 vv)]⟩, some ⟨v2, 62, 34, [zeroC]⟩, some ⟨v3, 151, 1, ptrsT v1 i⟩, some ⟨vu, 127, 2, (someT n s ++ oneT [194, 164, 48, 48, 32, 120]).map encT⟩, some ⟨vv, 125, 2, [[.int .i64 5, .sl 4 vu]]⟩]) ?_ ?_
    · refine gos ?_
      (repeat' (first | exact trivial | refine CallW.pure (One_does _) rfl rfl ?_ | refine And.intro (And.intro (encT_two _) (encT_ones _)) ?_ | refine And.intro (And.intro rfl trivial) ?_ | refine gof ?_ | refine fun (vv : Nat) => ?_ | refine And.intro ?_ ?_))
      all_goals
        refine gos ?_
        exact ⟨_, 6, fgts, _, _, rfl, rfl⟩
    rintro e h ⟨vu, vv, rfl, rfl⟩
    refine AC.rowC 4 5 0 1 rfl rfl (by omega) rfl rfl rfl rfl ?_
    refine AC.rowC 5 1 0 24 rfl rfl (by omega) rfl rfl rfl rfl ?_
    refine AC.go tab ?_
    refine gos ?_
    refine RetW.plain (by simp) ?_
    rfl
  · -- a currency behind
    refine AC.cutF tab (fun e h => ∃ x5 x6 j vv, e = [.any, .any, .any, .ptr 1 v1 0 0, .ptr 2 v2 0 0] ++ List.replicate 168 .any ∧ (j = 5 ∧ x5 = some ⟨vv, 106, 8, t.curs.map encCu ++ [curC s n]⟩ ∨ j = 6 ∧ x6 = some ⟨vv, 106, 8, t.curs.map encCu ++ [curC s n]⟩) ∧
      h = [none, some ⟨v1, 62, 34, [(tabC t).set 25 (.sl j vv)]⟩, some ⟨v2, 62, 34, [zeroC]⟩, some ⟨v3, 151, 1, ptrsT v1 i⟩, some ⟨v4, 127, 2, [[.int .i64 (andI n 7), .str s]]⟩, x5, x6]) ?_ ?_
    · refine gos ?_
      refine DrawW.P (.take 1 (.take 4 (.takeF 5 (.take 6 (.takeF 7 (.take 8 (.takeF 9 (.take 10 (.fork (.cons 0 (.fork (.cons 2 (.fork (.cons 3 (.take 11 (.take 12 (.take 13 (.take 14 .done)))) (.cons 11 (.take 3 (.take 12 (.take 13 (.take 14 .done)))) .nil))) (.cons 11 (.take 2 (.take 3 (.take 12 (.take 13 (.take 14 .done))))) .nil))) (.cons 2 (.fork (.cons 0 (.fork (.cons 3 (.take 11 (.take 12 (.take 13 (.take 14 .done)))) (.cons 11 (.take 3 (.take 12 (.take 13 (.take 14 .done)))) .nil))) (.cons 11 (.take 0 (.take 3 (.take 12 (.take 13 (.take 14 .done))))) .nil))) (.cons 11 (.fork (.cons 0 (.take 2 (.take 3 (.take 12 (.take 13 (.take 14 .done))))) (.cons 2 (.take 0 (.take 3 (.take 12 (.take 13 (.take 14 .done))))) .nil))) .nil)))))))))))) ?_
      (repeat' (first | exact trivial | refine CallW.pure (One_does _) rfl rfl ?_ | refine And.intro (And.intro (encCu_eight _) (encCu_ones _)) ?_ | refine And.intro (And.intro rfl trivial) ?_ | refine gof ?_ | refine fun (vv : Nat) => ?_ | refine And.intro ?_ ?_))
      all_goals
        refine gos ?_
        first
          | exact ⟨_, 7, fgts, _, _, 5, vv, rfl, .inl ⟨rfl, rfl⟩, rfl⟩
          | exact ⟨_, 7, fgts, _, _, 6, vv, rfl, .inr ⟨rfl, rfl⟩, rfl⟩
    have hn : (t.curs.map encCu ++ [curC s n])[t.curs.length]? = some (curC s n) := by simp
    have hs : (t.curs.map encCu ++ [curC s n]).set t.curs.length (encCu (curS s n)) = (t.curs ++ [curS s n]).map encCu := by simp [List.set_append]
    rintro e h ⟨x5, x6, j, vv, rfl, ⟨rfl, rfl⟩ | ⟨rfl, rfl⟩, rfl⟩
    · refine AC.nilC 5 t.curs.length 3 rfl hn rfl ?_
      refine AC.rowC 5 1 0 25 rfl rfl (by omega) rfl rfl rfl (by show closedLL (List.set _ _ (encCu (curS s n))) = true; rw [hs]; exact closedLL_map (fun _ => rfl) _) ?_
      show AC _ _ _ _ _ [none, some ⟨v1, 62, 34, [(tabC t).set 25 (.fsl (List.set _ _ (encCu (curS s n))))]⟩, some ⟨v2, 62, 34, [zeroC]⟩, some ⟨v3, 151, 1, ptrsT v1 i⟩, some ⟨v4, 127, 2, [[.int .i64 (andI n 7), .str s]]⟩, none, x6]
      rw [hs]
      refine AC.go tab ?_
      refine gos ?_
      refine RetW.plain (by simp) ?_
      rfl
    · refine AC.nilC 6 t.curs.length 3 rfl hn rfl ?_
      refine AC.rowC 6 1 0 25 rfl rfl (by omega) rfl rfl rfl (by show closedLL (List.set _ _ (encCu (curS s n))) = true; rw [hs]; exact closedLL_map (fun _ => rfl) _) ?_
      show AC _ _ _ _ _ [none, some ⟨v1, 62, 34, [(tabC t).set 25 (.fsl (List.set _ _ (encCu (curS s n))))]⟩, some ⟨v2, 62, 34, [zeroC]⟩, some ⟨v3, 151, 1, ptrsT v1 i⟩, some ⟨v4, 127, 2, [[.int .i64 (andI n 7), .str s]]⟩, x5, none]
      rw [hs]
      refine AC.go tab ?_
      refine gos ?_
      refine RetW.plain (by simp) ?_
      rfl
  · -- one currency
    refine AC.cutF tab (fun e h => ∃ vv, e = [.any, .any, .any, .ptr 1 v1 0 0, .ptr 2 v2 0 0] ++ List.replicate 168 .any ∧
      h = [none, some ⟨v1, 62, 34, [(tabC t).set 25 (.sl 5 vv)]⟩, some ⟨v2, 62, 34, [zeroC]⟩, some ⟨v3, 151, 1, ptrsT v1 i⟩, some ⟨v4, 127, 2, (someT n s).map encT⟩, some ⟨vv, 106, 8, [[.str [88, 88, 88], .str [], .str s, .sl 4 v4, .int .i64 0, .int .i64 0, .int .i64 0, .int .i64 n]]⟩]) ?_ ?_
    · refine gos ?_
      (repeat (first | refine gof ?_ | refine fun (vv : Nat) => ?_))
      exact ⟨_, 6, fgts, vv, rfl, rfl⟩
    rintro e h ⟨vv, rfl, rfl⟩
    refine AC.rowC 4 5 0 3 rfl rfl (by omega) rfl rfl rfl rfl ?_
    refine AC.rowC 5 1 0 25 rfl rfl (by omega) rfl rfl rfl rfl ?_
    refine AC.go tab ?_
    refine gos ?_
    refine RetW.plain (by simp) ?_
    rfl
  · -- a unit behind
    refine AC.cutF tab (fun e h => ∃ vv, e = [.any, .any, .any, .ptr 1 v1 0 0, .ptr 2 v2 0 0] ++ List.replicate 168 .any ∧
      h = [none, some ⟨v1, 62, 34, [(tabC t).set 26 (.sl 5 vv)]⟩, some ⟨v2, 62, 34, [zeroC]⟩, some ⟨v3, 151, 1, ptrsT v1 i⟩, some ⟨v4, 127, 2, [[.int .i64 (andI n 7), .str s]]⟩, some ⟨vv, 104, 2, (t.units ++ [(⟨s, oneT [123, 48, 125]⟩ : TUnt)]).map encU⟩]) ?_ ?_
    · refine gos ?_
      refine DrawW.P (.take 1 (.take 4 (.takeF 5 (.fork (.cons 0 (.take 2 (.take 3 (.take 6 (.take 7 (.take 8 (.take 9 (.take 10 (.take 11 .done)))))))) (.cons 2 (.take 0 (.take 3 (.take 6 (.take 7 (.take 8 (.take 9 (.take 10 (.take 11 .done)))))))) .nil)))))) ?_
      (repeat' (first | exact trivial | refine CallW.pure (One_does _) rfl rfl ?_ | refine And.intro (And.intro (encU_two _) (encU_ones _)) ?_ | refine And.intro (And.intro rfl trivial) ?_ | refine gof ?_ | refine fun (vv : Nat) => ?_ | refine And.intro ?_ ?_))
      all_goals
        refine gos ?_
        exact ⟨_, 6, fgts, vv, rfl, by rw [List.map_append]; rfl⟩
    rintro e h ⟨vv, rfl, rfl⟩
    refine AC.rowC 5 1 0 26 rfl rfl (by omega) rfl rfl rfl (closedLL_map (fun _ => rfl) _) ?_
    refine AC.go tab ?_
    refine gos ?_
    refine RetW.plain (by simp) ?_
    rfl
  · -- one unit
    refine AC.cutF tab (fun e h => ∃ vv, e = [.any, .any, .any, .ptr 1 v1 0 0, .ptr 2 v2 0 0] ++ List.replicate 168 .any ∧
      h = [none, some ⟨v1, 62, 34, [(tabC t).set 26 (.sl 5 vv)]⟩, some ⟨v2, 62, 34, [zeroC]⟩, some ⟨v3, 151, 1, ptrsT v1 i⟩, some ⟨v4, 127, 2, (someT n s).map encT⟩, some ⟨vv, 104, 2, [[.str [120], .sl 4 v4]]⟩]) ?_ ?_
    · refine gos ?_
      (repeat (first | refine gof ?_ | refine fun (vv : Nat) => ?_))
      exact ⟨_, 6, fgts, vv, rfl, rfl⟩
    rintro e h ⟨vv, rfl, rfl⟩
    refine AC.rowC 4 5 0 1 rfl rfl (by omega) rfl rfl rfl rfl ?_
    refine AC.rowC 5 1 0 26 rfl rfl (by omega) rfl rfl rfl rfl ?_
    refine AC.go tab ?_
    refine gos ?_
    refine RetW.plain (by simp) ?_
    rfl
  · -- a number and a currency's name
    refine AC.cutF tab (fun e h => ∃ vu, e = [.any, .any, .any, .ptr 1 v1 0 0, .ptr 2 v2 0 0] ++ List.replicate 168 .any ∧
      h = [none, some ⟨v1, 62, 34, [(tabC t).set 27 (.sl 4 vu)]⟩, some ⟨v2, 62, 34, [zeroC]⟩, some ⟨v3, 151, 1, ptrsT v1 i⟩, some ⟨vu, 127, 2, (someT n s ++ oneT [123, 49, 125, 32, 123, 48, 125]).map encT⟩]) ?_ ?_
    · refine gos ?_
      (repeat' (first | exact trivial | refine CallW.pure (One_does _) rfl rfl ?_ | refine And.intro (And.intro (encT_two _) (encT_ones _)) ?_ | refine And.intro (And.intro rfl trivial) ?_ | refine gof ?_ | refine fun (vv : Nat) => ?_ | refine And.intro ?_ ?_))
      all_goals
        refine gos ?_
        exact ⟨_, 5, fgts, _, rfl, rfl⟩
    rintro e h ⟨vu, rfl, rfl⟩
    refine AC.rowC 4 1 0 27 rfl rfl (by omega) rfl rfl rfl rfl ?_
    refine AC.go tab ?_
    refine gos ?_
    refine RetW.plain (by simp) ?_
    rfl
end Go.Proofs.YtijdnjngfkohfaaGreatDoor
