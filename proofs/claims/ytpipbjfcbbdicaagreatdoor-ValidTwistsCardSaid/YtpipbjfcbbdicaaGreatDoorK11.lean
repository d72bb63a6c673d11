/- Proved: for all arguments, florinlaw16.ValidTwists returns true, and its arguments read behind the call as they read before. Conditions: none but the row's own (package variables read as the program's text sets them, which the card ties). -/
import Derived.Test.YtpipbjfcbbdicaaGreatDoorJ16
import Derived.Test.YtpipbjfcbbdicaaGreatDoorJ14
import Derived.Test.YtpipbjfcbbdicaaGreatDoorJ18
import Derived.Test.YtpipbjfcbbdicaaGreatDoorJ15
import Derived.Test.YtpipbjfcbbdicaaGreatDoorRows
import Derived.Test.YtpipbjfcbbdicaaGreatDoorAbsC
import Derived.Lib.LaidU8
import Derived.Lib.LaidIn
import Derived.Shelf.Vars
import Derived.ProofKit
import Derived.ChangeOld
import Derived.Carry
import Derived.Lay
import Derived.Test.YtpipbjfcbbdicaaGreatDoorTie
import Derived.Test.YtpipbjfcbbdicaaGreatDoorCards
import Derived.SevenTiedAt
set_option linter.unusedVariables false
set_option linter.unusedSimpArgs false
set_option maxRecDepth 100000
set_option maxHeartbeats 4000000

namespace Go.Proofs.YtpipbjfcbbdicaaGreatDoor
open Go Go.Abs
attribute [local irreducible] DrawW CallW RetW AC Does CmpW
variable {G : Globs}

def andI (a b : Int) : Int := IntKind.i64.wrap (BitVec.ofInt IntKind.i64.bits a &&& BitVec.ofInt IntKind.i64.bits b).toNat
def digSet (d : TDig) (i : Nat) (s : List UInt8) : TDig := match i with
  | 0 => { d with d0 := s }
  | 1 => { d with d1 := s }
  | 2 => { d with d2 := s }
  | 3 => { d with d3 := s }
  | 4 => { d with d4 := s }
  | 5 => { d with d5 := s }
  | 6 => { d with d6 := s }
  | 7 => { d with d7 := s }
  | 8 => { d with d8 := s }
  | _ => { d with d9 := s }
def someT (n : Int) (s : List UInt8) : List TTxt := [⟨andI n 7, s⟩]
def curS (s : List UInt8) (n : Int) : TCur := ⟨s, s, [], [], n, 0, 0, 0⟩
def curC (s : List UInt8) (n : Int) : List AV := [.str s, .str s, .str [], .nils, .int .i64 n, .int .i64 0, .int .i64 0, .int .i64 0]
def curX (s : List UInt8) (n : Int) : TCur := ⟨[88, 88, 88], [], s, someT n s, 0, 0, 0, n⟩
def turnI (k i : Nat) (n : Int) (s : List UInt8) (t : TTab) : TTab := match k with
  | 0 => { t with dg := digSet t.dg i s }
  | 1 => { t with minus := s }
  | 2 => { t with percent := s }
  | 3 => { t with point := s }
  | 4 => { t with comma := s }
  | 5 => { t with decimal := s }
  | 6 => { t with per := s }
  | 7 => { t with money := s }
  | 8 => { t with account := s }
  | 9 => { t with rules := s }
  | 10 => { t with before := { t.before with cur := s } }
  | 11 => { t with before := { t.before with num := s } }
  | 12 => { t with before := { t.before with ins := s } }
  | 13 => { t with after := { t.after with cur := s } }
  | 14 => { t with after := { t.after with num := s } }
  | 15 => { t with minGroup := n }
  | 16 => { t with short := t.short ++ [⟨andI n 31, oneT s⟩] }
  | 17 => { t with short := ⟨andI n 3, oneT s⟩ :: t.short }
  | 18 => { t with long := [⟨andI n 127, someT n s ++ oneT [48, 32, 120]⟩] }
  | 19 => { t with mshort := [⟨5, someT n s ++ oneT [194, 164, 48, 48, 32, 120]⟩] }
  | 20 => { t with curs := t.curs ++ [curS s n] }
  | 21 => { t with curs := [curX s n] }
  | 22 => { t with units := t.units ++ [⟨s, oneT [123, 48, 125]⟩] }
  | 23 => { t with units := [⟨[120], someT n s⟩] }
  | _ => { t with munit := someT n s ++ oneT [123, 49, 125, 32, 123, 48, 125] }
def twk (w : Int) : Nat := ((IntKind.u64.wrap w).tmod 25).toNat
def twi (n : Int) : Nat := ((IntKind.u64.wrap n).tmod 10).toNat
/-- What Turn makes of a table. -/
def turnF (w n : Int) (s : List UInt8) (t : TTab) : TTab := turnI (twk w) (twi n) n s t
theorem u64_nn (n : Int) : 0 ≤ IntKind.u64.wrap n := by
  unfold IntKind.wrap
  simp only [IntKind.bits, IntKind.signed]
  simp
  omega
theorem tmod_nat (n m : Int) (hm : 0 < m) : (IntKind.u64.wrap n).tmod m = (((IntKind.u64.wrap n).tmod m).toNat : Int) ∧ ((IntKind.u64.wrap n).tmod m).toNat < m.toNat := by
  have h := u64_nn n
  rw [Int.tmod_eq_emod_of_nonneg h]
  have h1 := Int.emod_nonneg (IntKind.u64.wrap n) (Int.ne_of_gt hm)
  have h2 := Int.emod_lt_of_pos (IntKind.u64.wrap n) hm
  omega
def ptrsT (v i : Nat) : List (List AV) := [[.ptr 1 v 0 i], [.ptr 1 v 0 10], [.ptr 1 v 0 12], [.ptr 1 v 0 14], [.ptr 1 v 0 15], [.ptr 1 v 0 17], [.ptr 1 v 0 18], [.ptr 1 v 0 19], [.ptr 1 v 0 20], [.ptr 1 v 0 21], [.ptr 1 v 0 28], [.ptr 1 v 0 29], [.ptr 1 v 0 30], [.ptr 1 v 0 31], [.ptr 1 v 0 32]]
theorem encR_ones (l : List TRow) : ∀ y ∈ l.map encR, ones y = true := fun y hy => by obtain ⟨z, _, rfl⟩ := List.mem_map.1 hy; rfl
theorem encT_ones (l : List TTxt) : ∀ y ∈ l.map encT, ones y = true := fun y hy => by obtain ⟨z, _, rfl⟩ := List.mem_map.1 hy; rfl
theorem encCu_ones (l : List TCur) : ∀ y ∈ l.map encCu, ones y = true := fun y hy => by obtain ⟨z, _, rfl⟩ := List.mem_map.1 hy; rfl
theorem encU_ones (l : List TUnt) : ∀ y ∈ l.map encU, ones y = true := fun y hy => by obtain ⟨z, _, rfl⟩ := List.mem_map.1 hy; rfl

theorem closedLL_map {α : Type} {f : α → List AV} (h : ∀ x, closedL (f x) = true) : ∀ l : List α, closedLL (l.map f) = true
  | [] => rfl
  | x :: l => by
    have := closedLL_map h l
    simp [closedLL, h x, this]

theorem Turn_does (w n : Int) (s : List UInt8) (t : TTab) (h1 : t.short.length ≤ 50000) (h2 : t.curs.length ≤ 50000) (h3 : t.units.length ≤ 50000) :
    Does Tryz.prog G 10 [.agg [.int .i64 w, .int .i64 n, .str s], .agg (tabC t)] [] fun ae _ => ae = .ret (.agg (tabC (turnF w n s t))) := by
  obtain ⟨hk, hk2⟩ := tmod_nat w 25 (by omega)
  obtain ⟨hi, hi2⟩ := tmod_nat n 10 (by omega)
  have hF : turnF w n s t = turnI ((IntKind.u64.wrap w).tmod 25).toNat ((IntKind.u64.wrap n).tmod 10).toNat n s t := rfl
  generalize ((IntKind.u64.wrap w).tmod 25).toNat = k at hk hk2 hF
  generalize ((IntKind.u64.wrap n).tmod 10).toNat = i at hi hi2 hF
  have hk2 : k < 25 := hk2
  have hi2 : i < 10 := hi2
  rw [hF]
  clear hF
  refine Does.bodyA tab Tryz.func10 rfl rfl ?_
  refine AC.step tab ?_
  refine gos ?_
  intro v0
  refine gos ?_
  intro v1
  refine gos ?_
  intro v2
  refine gos ?_
  refine AC.wk (Wk.ptr (k := 2) (i := 0) rfl rfl rfl rfl rfl) ?_
  refine AC.cutF tab (fun e h => ∃ v3, e = [.any, .any, .fptr [.int .i64 w, .int .i64 n, .str s], .ptr 1 v1 0 0, .ptr 2 v2 0 0, .sl 3 v3] ++ List.replicate 167 .any ∧
    h = [none, some ⟨v1, 31, 34, [tabC t]⟩, some ⟨v2, 31, 34, [zeroC]⟩, some ⟨v3, 82, 1, ptrsT v1 i⟩]) ?_ ?_
  · refine gos ?_
    refine And.intro (by decide) ⟨(i : Int), hi, ?_⟩
    refine gos ?_
    refine And.intro ⟨by omega, by omega⟩ ?_
    refine gos ?_
    intro v3
    refine gos ?_
    refine ⟨_, 4, fgts, v3, rfl, ?_⟩
    have e1 : ptrsT v1 i = ptrsT v1 (0 + (i : Int).toNat * 1) := congrArg _ (by omega)
    rw [e1]
    rfl
  rintro e h ⟨v3, rfl, rfl⟩
  refine AC.cutF tab (fun e h => e = [.any, .any, .fptr [.int .i64 w, .int .i64 n, .str s], .ptr 1 v1 0 0, .ptr 2 v2 0 0, .sl 3 v3, .int .i64 k] ++ List.replicate 166 .any ∧
    h = [none, some ⟨v1, 31, 34, [tabC t]⟩, some ⟨v2, 31, 34, [zeroC]⟩, some ⟨v3, 82, 1, ptrsT v1 i⟩]) ?_ ?_
  · refine ⟨_, rfl, ?_⟩
    refine And.intro rfl ⟨15, rfl, ?_⟩
    refine And.intro rfl ⟨25, rfl, ?_⟩
    refine ⟨25, rfl, ?_⟩
    refine And.intro rfl ?_
    refine And.intro (by decide) ⟨(k : Int), hk, ?_⟩
    refine gos ?_
    exact ⟨_, 4, fgts, rfl, rfl⟩
  rintro e h ⟨rfl, rfl⟩
  by_cases hk15 : k < 15
  · have : k = 0 ∨ k = 1 ∨ k = 2 ∨ k = 3 ∨ k = 4 ∨ k = 5 ∨ k = 6 ∨ k = 7 ∨ k = 8 ∨ k = 9 ∨ k = 10 ∨ k = 11 ∨ k = 12 ∨ k = 13 ∨ k = 14 := by omega
    clear hk15 hk2
    rcases this with rfl | rfl | rfl | rfl | rfl | rfl | rfl | rfl | rfl | rfl | rfl | rfl | rfl | rfl | rfl
    · have : i = 0 ∨ i = 1 ∨ i = 2 ∨ i = 3 ∨ i = 4 ∨ i = 5 ∨ i = 6 ∨ i = 7 ∨ i = 8 ∨ i = 9 := by omega
      clear hi2
      rcases this with rfl | rfl | rfl | rfl | rfl | rfl | rfl | rfl | rfl | rfl
      all_goals
        refine AC.step tab ?_
        refine gos ?_
        refine DrawW.L ?_
        refine gos ?_
        refine And.intro (And.intro (by decide) (by simp [ptrsT])) ?_
        refine gos ?_
        refine RetW.plain (by simp) ?_
        rfl
    all_goals
      refine AC.step tab ?_
      refine gos ?_
      refine DrawW.L ?_
      refine gos ?_
      refine And.intro (And.intro (by decide) (by simp [ptrsT])) ?_
      refine gos ?_
      refine RetW.plain (by simp) ?_
      rfl
  have hk16 : k = 15 ∨ k = 16 ∨ k = 17 ∨ k = 18 ∨ k = 19 ∨ k = 20 ∨ k = 21 ∨ k = 22 ∨ k = 23 ∨ k = 24 := by omega
  clear hk2
  refine AC.cutF tab (fun e h => e = [.any, .any, .fptr [.int .i64 w, .int .i64 n, .str s], .ptr 1 v1 0 0, .ptr 2 v2 0 0, .sl 3 v3, .int .i64 k] ++ List.replicate 166 .any ∧
    h = [none, some ⟨v1, 31, 34, [tabC t]⟩, some ⟨v2, 31, 34, [zeroC]⟩, some ⟨v3, 82, 1, ptrsT v1 i⟩]) ?_ ?_
  · refine gos ?_
    refine CmpW.f (by simp [ptrsT]; omega) ?_
    refine gos ?_
    exact ⟨_, 4, fgts, rfl, rfl⟩
  rintro e h ⟨rfl, rfl⟩
  clear hk15
  refine AC.cutF tab (fun e h => ∃ v4, e = [.any, .any, .fptr [.int .i64 w, .int .i64 n, .str s], .ptr 1 v1 0 0, .ptr 2 v2 0 0, .sl 3 v3, .int .i64 k, .sl 4 v4] ++ List.replicate 165 .any ∧
    h = [none, some ⟨v1, 31, 34, [tabC t]⟩, some ⟨v2, 31, 34, [zeroC]⟩, some ⟨v3, 82, 1, ptrsT v1 i⟩, some ⟨v4, 87, 2, [[.int .i64 (andI n 7), .str s]]⟩]) ?_ ?_
  · refine gos ?_
    intro v4
    refine gos ?_
    exact ⟨_, 5, fgts, v4, rfl, rfl⟩
  rintro e h ⟨v4, rfl, rfl⟩
  have lr : (t.short.map encR).length = t.short.length := by simp
  have lc : (t.curs.map encCu).length = t.curs.length := by simp
  have lu : (t.units.map encU).length = t.units.length := by simp
  rcases hk16 with rfl | rfl | rfl | rfl | rfl | rfl | rfl | rfl | rfl | rfl
  · -- the least group
    refine AC.step tab ?_
    refine gos ?_
    refine gos ?_
    refine AC.go tab ?_
    refine gos ?_
    refine RetW.plain (by simp) ?_
    rfl
  · -- a row behind
    refine AC.cutF tab (fun e h => ∃ vv, e = [.any, .any, .any, .ptr 1 v1 0 0, .ptr 2 v2 0 0] ++ List.replicate 168 .any ∧
      h = [none, some ⟨v1, 31, 34, [(tabC t).set 22 (.sl 5 vv)]⟩, some ⟨v2, 31, 34, [zeroC]⟩, some ⟨v3, 82, 1, ptrsT v1 i⟩, some ⟨v4, 87, 2, [[.int .i64 (andI n 7), .str s]]⟩, some ⟨vv, 43, 2, (t.short ++ [(⟨andI n 31, oneT s⟩ : TRow)]).map encR⟩]) ?_ ?_
    · refine gos ?_
      refine DrawW.P (.take 1 (.take 4 (.takeF 5 (.take 6 (.take 7 (.takeF 8 (.fork (.cons 0 (.take 2 (.take 3 (.take 9 (.take 10 (.take 11 (.take 12 (.take 13 (.take 14 .done)))))))) (.cons 2 (.take 0 (.take 3 (.take 9 (.take 10 (.take 11 (.take 12 (.take 13 (.take 14 .done)))))))) .nil))))))))) ?_
      (repeat' (first | exact trivial | refine CallW.pure (One_does _) rfl rfl ?_ | refine And.intro (And.intro (encR_two _) (encR_ones _)) ?_ | refine And.intro (And.intro rfl trivial) ?_ | refine gof ?_ | refine fun (vv : Nat) => ?_ | refine And.intro ?_ ?_))
      all_goals
        refine gos ?_
        exact ⟨_, 6, fgts, vv, rfl, by rw [List.map_append]; rfl⟩
    rintro e h ⟨vv, rfl, rfl⟩
    refine AC.rowC 5 1 0 22 rfl rfl (by omega) rfl rfl rfl (closedLL_map (fun _ => rfl) _) ?_
    refine AC.go tab ?_
    refine gos ?_
    refine RetW.plain (by simp) ?_
    rfl
  · -- a row ahead
    refine AC.cutF tab (fun e h => ∃ vv, e = [.any, .any, .any, .ptr 1 v1 0 0, .ptr 2 v2 0 0] ++ List.replicate 168 .any ∧
      h = [none, some ⟨v1, 31, 34, [(tabC t).set 22 (.sl 5 vv)]⟩, some ⟨v2, 31, 34, [zeroC]⟩, some ⟨v3, 82, 1, ptrsT v1 i⟩, some ⟨v4, 87, 2, [[.int .i64 (andI n 7), .str s]]⟩, some ⟨vv, 43, 2, ((⟨andI n 3, oneT s⟩ : TRow) :: t.short).map encR⟩]) ?_ ?_
    · refine gos ?_
      refine DrawW.P (.take 0 (.takeF 1 (.take 2 (.take 3 (.takeF 4 (.take 8 (.fork (.cons 5 (.take 6 (.fork (.cons 7 (.take 9 (.take 10 (.take 11 (.take 12 .done)))) (.cons 9 (.take 7 (.take 10 (.take 11 (.take 12 .done)))) .nil)))) (.cons 9 (.take 5 (.take 6 (.take 7 (.take 10 (.take 11 (.take 12 .done)))))) .nil))))))))) ?_
      (repeat' (first | exact trivial | refine CallW.pure (One_does _) rfl rfl ?_ | refine And.intro (And.intro (encR_two _) (encR_ones _)) ?_ | refine And.intro (And.intro rfl trivial) ?_ | refine gof ?_ | refine fun (vv : Nat) => ?_ | refine And.intro ?_ ?_))
      all_goals
        refine gos ?_
        exact ⟨_, 6, fgts, vv, rfl, rfl⟩
    rintro e h ⟨vv, rfl, rfl⟩
    refine AC.rowC 5 1 0 22 rfl rfl (by omega) rfl rfl rfl (closedLL_map (fun _ => rfl) _) ?_
    refine AC.go tab ?_
    refine gos ?_
    refine RetW.plain (by simp) ?_
    rfl
  · -- one long row
    refine AC.cutF tab (fun e h => ∃ vu vv, e = [.any, .any, .any, .ptr 1 v1 0 0, .ptr 2 v2 0 0] ++ List.replicate 168 .any ∧
      h = [none, some ⟨v1, 31, 34, [(tabC t).set 23 (.sl 5 vv)]⟩, some ⟨v2, 31, 34, [zeroC]⟩, some ⟨v3, 82, 1, ptrsT v1 i⟩, some ⟨vu, 87, 2, (someT n s ++ oneT [48, 32, 120]).map encT⟩, some ⟨vv, 43, 2, [[.int .i64 (andI n 127), .sl 4 vu]]⟩]) ?_ ?_
    · refine gos ?_
      refine DrawW.P (.take 0 (.takeF 1 (.take 2 (.take 3 (.take 4 (.take 5 (.take 6 (.take 7 (.take 8 (.take 9 .done)))))))))) ?_
      (repeat' (first | exact trivial | refine CallW.pure (One_does _) rfl rfl ?_ | refine And.intro (And.intro (encT_two _) (encT_ones _)) ?_ | refine And.intro (And.intro rfl trivial) ?_ | refine gof ?_ | refine fun (vv : Nat) => ?_ | refine And.intro ?_ ?_))
      all_goals
        refine gos ?_
        exact ⟨_, 6, fgts, _, _, rfl, rfl⟩
    rintro e h ⟨vu, vv, rfl, rfl⟩
    refine AC.rowC 4 5 0 1 rfl rfl (by omega) rfl rfl rfl rfl ?_
    refine AC.rowC 5 1 0 23 rfl rfl (by omega) rfl rfl rfl rfl ?_
    refine AC.go tab ?_
    refine gos ?_
    refine RetW.plain (by simp) ?_
    rfl
  · -- one row of money
    refine AC.cutF tab (fun e h => ∃ vu vv, e = [.any, .any, .any, .ptr 1 v1 0 0, .ptr 2 v2 0 0] ++ List.replicate 168 .any ∧
      h = [none, some ⟨v1, 31, 34, [(tabC t).set 24 (.sl 5 vv)]⟩, some ⟨v2, 31, 34, [zeroC]⟩, some ⟨v3, 82, 1, ptrsT v1 i⟩, some ⟨vu, 87, 2, (someT n s ++ oneT [194, 164, 48, 48, 32, 120]).map encT⟩, some ⟨vv, 43, 2, [[.int .i64 5, .sl 4 vu]]⟩]) ?_ ?_
    · refine gos ?_
      (repeat' (first | exact trivial | refine CallW.pure (One_does _) rfl rfl ?_ | refine And.intro (And.intro (encT_two _) (encT_ones _)) ?_ | refine And.intro (And.intro rfl trivial) ?_ | refine gof ?_ | refine fun (vv : Nat) => ?_ | refine And.intro ?_ ?_))
      all_goals
        refine gos ?_
        exact ⟨_, 6, fgts, _, _, rfl, rfl⟩
    rintro e h ⟨vu, vv, rfl, rfl⟩
    refine AC.rowC 4 5 0 1 rfl rfl (by omega) rfl rfl rfl rfl ?_
    refine AC.rowC 5 1 0 24 rfl rfl (by omega) rfl rfl rfl rfl ?_
    refine AC.go tab ?_
    refine gos ?_
    refine RetW.plain (by simp) ?_
    rfl
  · -- a currency behind
    refine AC.cutF tab (fun e h => ∃ x5 x6 j vv, e = [.any, .any, .any, .ptr 1 v1 0 0, .ptr 2 v2 0 0] ++ List.replicate 168 .any ∧ (j = 5 ∧ x5 = some ⟨vv, 46, 8, t.curs.map encCu ++ [curC s n]⟩ ∨ j = 6 ∧ x6 = some ⟨vv, 46, 8, t.curs.map encCu ++ [curC s n]⟩) ∧
      h = [none, some ⟨v1, 31, 34, [(tabC t).set 25 (.sl j vv)]⟩, some ⟨v2, 31, 34, [zeroC]⟩, some ⟨v3, 82, 1, ptrsT v1 i⟩, some ⟨v4, 87, 2, [[.int .i64 (andI n 7), .str s]]⟩, x5, x6]) ?_ ?_
    · refine gos ?_
      refine DrawW.P (.take 1 (.take 4 (.takeF 5 (.take 6 (.takeF 7 (.take 8 (.takeF 9 (.take 10 (.fork (.cons 0 (.fork (.cons 2 (.fork (.cons 3 (.take 11 (.take 12 (.take 13 (.take 14 .done)))) (.cons 11 (.take 3 (.take 12 (.take 13 (.take 14 .done)))) .nil))) (.cons 11 (.take 2 (.take 3 (.take 12 (.take 13 (.take 14 .done))))) .nil))) (.cons 2 (.fork (.cons 0 (.fork (.cons 3 (.take 11 (.take 12 (.take 13 (.take 14 .done)))) (.cons 11 (.take 3 (.take 12 (.take 13 (.take 14 .done)))) .nil))) (.cons 11 (.take 0 (.take 3 (.take 12 (.take 13 (.take 14 .done))))) .nil))) (.cons 11 (.fork (.cons 0 (.take 2 (.take 3 (.take 12 (.take 13 (.take 14 .done))))) (.cons 2 (.take 0 (.take 3 (.take 12 (.take 13 (.take 14 .done))))) .nil))) .nil)))))))))))) ?_
      (repeat' (first | exact trivial | refine CallW.pure (One_does _) rfl rfl ?_ | refine And.intro (And.intro (encCu_eight _) (encCu_ones _)) ?_ | refine And.intro (And.intro rfl trivial) ?_ | refine gof ?_ | refine fun (vv : Nat) => ?_ | refine And.intro ?_ ?_))
      all_goals
        refine gos ?_
        first
          | exact ⟨_, 7, fgts, _, _, 5, vv, rfl, .inl ⟨rfl, rfl⟩, rfl⟩
          | exact ⟨_, 7, fgts, _, _, 6, vv, rfl, .inr ⟨rfl, rfl⟩, rfl⟩
    have hn : (t.curs.map encCu ++ [curC s n])[t.curs.length]? = some (curC s n) := by simp
    have hs : (t.curs.map encCu ++ [curC s n]).set t.curs.length (encCu (curS s n)) = (t.curs ++ [curS s n]).map encCu := by simp [List.set_append]
    rintro e h ⟨x5, x6, j, vv, rfl, ⟨rfl, rfl⟩ | ⟨rfl, rfl⟩, rfl⟩
    · refine AC.nilC 5 t.curs.length 3 rfl hn rfl ?_
      refine AC.rowC 5 1 0 25 rfl rfl (by omega) rfl rfl rfl (by show closedLL (List.set _ _ (encCu (curS s n))) = true; rw [hs]; exact closedLL_map (fun _ => rfl) _) ?_
      show AC _ _ _ _ _ [none, some ⟨v1, 31, 34, [(tabC t).set 25 (.fsl (List.set _ _ (encCu (curS s n))))]⟩, some ⟨v2, 31, 34, [zeroC]⟩, some ⟨v3, 82, 1, ptrsT v1 i⟩, some ⟨v4, 87, 2, [[.int .i64 (andI n 7), .str s]]⟩, none, x6]
      rw [hs]
      refine AC.go tab ?_
      refine gos ?_
      refine RetW.plain (by simp) ?_
      rfl
    · refine AC.nilC 6 t.curs.length 3 rfl hn rfl ?_
      refine AC.rowC 6 1 0 25 rfl rfl (by omega) rfl rfl rfl (by show closedLL (List.set _ _ (encCu (curS s n))) = true; rw [hs]; exact closedLL_map (fun _ => rfl) _) ?_
      show AC _ _ _ _ _ [none, some ⟨v1, 31, 34, [(tabC t).set 25 (.fsl (List.set _ _ (encCu (curS s n))))]⟩, some ⟨v2, 31, 34, [zeroC]⟩, some ⟨v3, 82, 1, ptrsT v1 i⟩, some ⟨v4, 87, 2, [[.int .i64 (andI n 7), .str s]]⟩, x5, none]
      rw [hs]
      refine AC.go tab ?_
      refine gos ?_
      refine RetW.plain (by simp) ?_
      rfl
  · -- one currency
    refine AC.cutF tab (fun e h => ∃ vv, e = [.any, .any, .any, .ptr 1 v1 0 0, .ptr 2 v2 0 0] ++ List.replicate 168 .any ∧
      h = [none, some ⟨v1, 31, 34, [(tabC t).set 25 (.sl 5 vv)]⟩, some ⟨v2, 31, 34, [zeroC]⟩, some ⟨v3, 82, 1, ptrsT v1 i⟩, some ⟨v4, 87, 2, (someT n s).map encT⟩, some ⟨vv, 46, 8, [[.str [88, 88, 88], .str [], .str s, .sl 4 v4, .int .i64 0, .int .i64 0, .int .i64 0, .int .i64 n]]⟩]) ?_ ?_
    · refine gos ?_
      (repeat (first | refine gof ?_ | refine fun (vv : Nat) => ?_))
      exact ⟨_, 6, fgts, vv, rfl, rfl⟩
    rintro e h ⟨vv, rfl, rfl⟩
    refine AC.rowC 4 5 0 3 rfl rfl (by omega) rfl rfl rfl rfl ?_
    refine AC.rowC 5 1 0 25 rfl rfl (by omega) rfl rfl rfl rfl ?_
    refine AC.go tab ?_
    refine gos ?_
    refine RetW.plain (by simp) ?_
    rfl
  · -- a unit behind
    refine AC.cutF tab (fun e h => ∃ vv, e = [.any, .any, .any, .ptr 1 v1 0 0, .ptr 2 v2 0 0] ++ List.replicate 168 .any ∧
      h = [none, some ⟨v1, 31, 34, [(tabC t).set 26 (.sl 5 vv)]⟩, some ⟨v2, 31, 34, [zeroC]⟩, some ⟨v3, 82, 1, ptrsT v1 i⟩, some ⟨v4, 87, 2, [[.int .i64 (andI n 7), .str s]]⟩, some ⟨vv, 48, 2, (t.units ++ [(⟨s, oneT [123, 48, 125]⟩ : TUnt)]).map encU⟩]) ?_ ?_
    · refine gos ?_
      refine DrawW.P (.take 1 (.take 4 (.takeF 5 (.fork (.cons 0 (.take 2 (.take 3 (.take 6 (.take 7 (.take 8 (.take 9 (.take 10 (.take 11 .done)))))))) (.cons 2 (.take 0 (.take 3 (.take 6 (.take 7 (.take 8 (.take 9 (.take 10 (.take 11 .done)))))))) .nil)))))) ?_
      (repeat' (first | exact trivial | refine CallW.pure (One_does _) rfl rfl ?_ | refine And.intro (And.intro (encU_two _) (encU_ones _)) ?_ | refine And.intro (And.intro rfl trivial) ?_ | refine gof ?_ | refine fun (vv : Nat) => ?_ | refine And.intro ?_ ?_))
      all_goals
        refine gos ?_
        exact ⟨_, 6, fgts, vv, rfl, by rw [List.map_append]; rfl⟩
    rintro e h ⟨vv, rfl, rfl⟩
    refine AC.rowC 5 1 0 26 rfl rfl (by omega) rfl rfl rfl (closedLL_map (fun _ => rfl) _) ?_
    refine AC.go tab ?_
    refine gos ?_
    refine RetW.plain (by simp) ?_
    rfl
  · -- one unit
    refine AC.cutF tab (fun e h => ∃ vv, e = [.any, .any, .any, .ptr 1 v1 0 0, .ptr 2 v2 0 0] ++ List.replicate 168 .any ∧
      h = [none, some ⟨v1, 31, 34, [(tabC t).set 26 (.sl 5 vv)]⟩, some ⟨v2, 31, 34, [zeroC]⟩, some ⟨v3, 82, 1, ptrsT v1 i⟩, some ⟨v4, 87, 2, (someT n s).map encT⟩, some ⟨vv, 48, 2, [[.str [120], .sl 4 v4]]⟩]) ?_ ?_
    · refine gos ?_
      (repeat (first | refine gof ?_ | refine fun (vv : Nat) => ?_))
      exact ⟨_, 6, fgts, vv, rfl, rfl⟩
    rintro e h ⟨vv, rfl, rfl⟩
    refine AC.rowC 4 5 0 1 rfl rfl (by omega) rfl rfl rfl rfl ?_
    refine AC.rowC 5 1 0 26 rfl rfl (by omega) rfl rfl rfl rfl ?_
    refine AC.go tab ?_
    refine gos ?_
    refine RetW.plain (by simp) ?_
    rfl
  · -- a number and a currency's name
    refine AC.cutF tab (fun e h => ∃ vu, e = [.any, .any, .any, .ptr 1 v1 0 0, .ptr 2 v2 0 0] ++ List.replicate 168 .any ∧
      h = [none, some ⟨v1, 31, 34, [(tabC t).set 27 (.sl 4 vu)]⟩, some ⟨v2, 31, 34, [zeroC]⟩, some ⟨v3, 82, 1, ptrsT v1 i⟩, some ⟨vu, 87, 2, (someT n s ++ oneT [123, 49, 125, 32, 123, 48, 125]).map encT⟩]) ?_ ?_
    · refine gos ?_
      (repeat' (first | exact trivial | refine CallW.pure (One_does _) rfl rfl ?_ | refine And.intro (And.intro (encT_two _) (encT_ones _)) ?_ | refine And.intro (And.intro rfl trivial) ?_ | refine gof ?_ | refine fun (vv : Nat) => ?_ | refine And.intro ?_ ?_))
      all_goals
        refine gos ?_
        exact ⟨_, 5, fgts, _, rfl, rfl⟩
    rintro e h ⟨vu, rfl, rfl⟩
    refine AC.rowC 4 1 0 27 rfl rfl (by omega) rfl rfl rfl rfl ?_
    refine AC.go tab ?_
    refine gos ?_
    refine RetW.plain (by simp) ?_
    rfl
end Go.Proofs.YtpipbjfcbbdicaaGreatDoor

namespace Go.Proofs.YtpipbjfcbbdicaaGreatDoor
open Go Go.Abs

theorem someT_fits {n : Int} {s r : List UInt8} (h : s.length ≤ 150) (hr : r.length ≤ 150) : txtFits (someT n s ++ oneT r) := by
  refine ⟨by simp [oneT, someT], fun x hx => ?_⟩
  simp only [oneT, someT, List.mem_append, List.mem_singleton] at hx
  rcases hx with rfl | rfl
  · show s.length < 50000
    omega
  · show r.length < 50000
    omega
theorem someT_fits1 {n : Int} {s : List UInt8} (h : s.length ≤ 150) : txtFits (someT n s) := by
  refine ⟨by simp [someT], fun x hx => ?_⟩
  simp only [someT, List.mem_singleton] at hx
  subst hx
  show s.length < 50000
  omega
theorem digSet_list (d : TDig) (i : Nat) (s : List UInt8) : ∀ x ∈ (digSet d i s).list, x ∈ d.list ∨ x = s := by
  intro x hx
  unfold digSet at hx
  split at hx <;> (simp only [TDig.list, List.mem_cons, List.not_mem_nil, or_false] at hx ⊢; simp only [or_assoc] at hx ⊢; rcases hx with h | h | h | h | h | h | h | h | h | h <;> simp [h])
theorem turn_few {t : TTab} {k : Nat} (w n : Int) {s : List UInt8} (h : t.few k) (hs : s.length ≤ 150) (hk : k ≤ 1000) : (turnF w n s t).few (k + 1) := by
  obtain ⟨hf, h1, h2, h3⟩ := h
  have hs5 : s.length < 50000 := by omega
  have mem1 : ∀ {α : Type} {l : List α} {x y : α} {p : α → Prop}, (∀ z ∈ l, p z) → p x → y ∈ l ++ [x] → p y := fun ha hb hy => by
    rcases List.mem_append.1 hy with hy | hy
    · exact ha _ hy
    · rw [List.mem_singleton.1 hy]; exact hb
  unfold turnF
  generalize twk w = j
  generalize twi n = i
  unfold turnI
  split
  case h_1 => exact ⟨{ hf with dg := fun x hx => (digSet_list t.dg i s x hx).elim (fun h => hf.dg x h) (fun e => by rw [e]; exact hs5) }, Nat.le_succ_of_le h1, Nat.le_succ_of_le h2, Nat.le_succ_of_le h3⟩
  case h_2 => exact ⟨{ hf with minus := hs5 }, Nat.le_succ_of_le h1, Nat.le_succ_of_le h2, Nat.le_succ_of_le h3⟩
  case h_3 => exact ⟨{ hf with percent := hs5 }, Nat.le_succ_of_le h1, Nat.le_succ_of_le h2, Nat.le_succ_of_le h3⟩
  case h_4 => exact ⟨{ hf with point := hs5 }, Nat.le_succ_of_le h1, Nat.le_succ_of_le h2, Nat.le_succ_of_le h3⟩
  case h_5 => exact ⟨{ hf with comma := hs5 }, Nat.le_succ_of_le h1, Nat.le_succ_of_le h2, Nat.le_succ_of_le h3⟩
  case h_6 => exact ⟨{ hf with decimal := hs5 }, Nat.le_succ_of_le h1, Nat.le_succ_of_le h2, Nat.le_succ_of_le h3⟩
  case h_7 => exact ⟨{ hf with per := hs5 }, Nat.le_succ_of_le h1, Nat.le_succ_of_le h2, Nat.le_succ_of_le h3⟩
  case h_8 => exact ⟨{ hf with money := hs5 }, Nat.le_succ_of_le h1, Nat.le_succ_of_le h2, Nat.le_succ_of_le h3⟩
  case h_9 => exact ⟨{ hf with account := hs5 }, Nat.le_succ_of_le h1, Nat.le_succ_of_le h2, Nat.le_succ_of_le h3⟩
  case h_10 => exact ⟨{ hf with rules := hs5 }, Nat.le_succ_of_le h1, Nat.le_succ_of_le h2, Nat.le_succ_of_le h3⟩
  case h_11 => exact ⟨{ hf with before := { hf.before with cur := hs5 } }, Nat.le_succ_of_le h1, Nat.le_succ_of_le h2, Nat.le_succ_of_le h3⟩
  case h_12 => exact ⟨{ hf with before := { hf.before with num := hs5 } }, Nat.le_succ_of_le h1, Nat.le_succ_of_le h2, Nat.le_succ_of_le h3⟩
  case h_13 => exact ⟨{ hf with before := { hf.before with ins := hs5 } }, Nat.le_succ_of_le h1, Nat.le_succ_of_le h2, Nat.le_succ_of_le h3⟩
  case h_14 => exact ⟨{ hf with after := { hf.after with cur := hs5 } }, Nat.le_succ_of_le h1, Nat.le_succ_of_le h2, Nat.le_succ_of_le h3⟩
  case h_15 => exact ⟨{ hf with after := { hf.after with num := hs5 } }, Nat.le_succ_of_le h1, Nat.le_succ_of_le h2, Nat.le_succ_of_le h3⟩
  case h_16 => exact ⟨{ hf with }, Nat.le_succ_of_le h1, Nat.le_succ_of_le h2, Nat.le_succ_of_le h3⟩
  case h_17 => exact ⟨{ hf with short := ⟨by simp; omega, fun r hr => mem1 hf.short.2 (row_fits (oneT_fits hs)) hr⟩ }, by simp; omega, Nat.le_succ_of_le h2, Nat.le_succ_of_le h3⟩
  case h_18 => exact ⟨{ hf with short := ⟨by simp; omega, fun r hr => (List.mem_cons.1 hr).elim (fun e => by rw [e]; exact row_fits (oneT_fits hs)) (fun h => hf.short.2 r h)⟩ }, by simp; omega, Nat.le_succ_of_le h2, Nat.le_succ_of_le h3⟩
  case h_19 => exact ⟨{ hf with long := ⟨by simp, fun r hr => by rw [List.mem_singleton.1 hr]; exact row_fits (someT_fits hs (by simp))⟩ }, Nat.le_succ_of_le h1, Nat.le_succ_of_le h2, Nat.le_succ_of_le h3⟩
  case h_20 => exact ⟨{ hf with mshort := ⟨by simp, fun r hr => by rw [List.mem_singleton.1 hr]; exact row_fits (someT_fits hs (by simp))⟩ }, Nat.le_succ_of_le h1, Nat.le_succ_of_le h2, Nat.le_succ_of_le h3⟩
  case h_21 => exact ⟨{ hf with curs := ⟨by simp; omega, fun r hr => mem1 hf.curs.2 ⟨hs5, hs5, by simp [curS], nil_fits⟩ hr⟩ }, Nat.le_succ_of_le h1, by simp; omega, Nat.le_succ_of_le h3⟩
  case h_22 => exact ⟨{ hf with curs := ⟨by simp, fun r hr => by rw [List.mem_singleton.1 hr]; exact ⟨by simp [curX], by simp [curX], hs5, someT_fits1 hs⟩⟩ }, Nat.le_succ_of_le h1, by simp, Nat.le_succ_of_le h3⟩
  case h_23 => exact ⟨{ hf with units := ⟨by simp; omega, fun r hr => mem1 (p := fun u : TUnt => u.name.length < 50000 ∧ txtFits u.texts) hf.units.2 ⟨hs5, oneT_fits (by simp)⟩ hr⟩ }, Nat.le_succ_of_le h1, Nat.le_succ_of_le h2, by simp; omega⟩
  case h_24 => exact ⟨{ hf with units := ⟨by simp, fun r hr => by rw [List.mem_singleton.1 hr]; exact ⟨by simp, someT_fits1 hs⟩⟩ }, Nat.le_succ_of_le h1, Nat.le_succ_of_le h2, by simp⟩
  case h_25 => exact ⟨{ hf with munit := someT_fits hs (by simp) }, Nat.le_succ_of_le h1, Nat.le_succ_of_le h2, Nat.le_succ_of_le h3⟩
end Go.Proofs.YtpipbjfcbbdicaaGreatDoor

namespace Go.Proofs.YtpipbjfcbbdicaaGreatDoor
open Go Go.Abs
attribute [local irreducible] DrawW CallW RetW AC Does CmpW

def twC (w n : Int) (s : List UInt8) : List AV := [.int .i64 w, .int .i64 n, .str s]
theorem ValidTwists_does (m : Int) (n w1 n1 w2 n2 : Int) (s1 s2 : List UInt8) (h1 : (s1.length : Int) ≤ 9223372036854775807) (h2 : (s2.length : Int) ≤ 9223372036854775807) :
    Does Tryz.prog (GL m) 4 [.int .i64 n, .agg (twC w1 n1 s1), .agg (twC w2 n2 s2)] [] fun ae _ => ae = .ret (.bool true) := by
  refine Does.bodyA tab Tryz.func4 rfl rfl ?_
  refine AC.step tab ?_
  refine gos ?_
  intro v0
  refine gos ?_
  intro v1
  refine gos ?_
  refine AC.wk (Wk.ptr (k := 4) (i := 0) rfl rfl rfl rfl rfl) ?_
  refine AC.wk (Wk.ptr (k := 5) (i := 1) rfl rfl rfl rfl rfl) ?_
  refine AC.cutF tab (fun e h => e = [.int .i64 n, .any, .any, .any, .fptr (twC w1 n1 s1), .fptr (twC w2 n2 s2)] ++ List.replicate 34 .any ∧ h = []) ?_ ?_
  · refine gos ?_
    refine CallW.pure (head16_does m) rfl rfl ?_
    refine gos ?_
    exact ⟨_, 0, fgts, rfl, rfl⟩
  rintro e h ⟨rfl, rfl⟩
  refine AC.cutF tab (fun e h => (s1.length ≤ 150 ∧ s2.length ≤ 150) ∧ e = [.int .i64 n, .any, .any, .any, .fptr (twC w1 n1 s1), .fptr (twC w2 n2 s2)] ++ List.replicate 34 .any ∧ h = []) ?_ ?_
  · refine gos ?_
    by_cases k1 : s1.length ≤ 150
    case neg =>
      refine CmpW.T ?_
      refine gos ?_
      refine RetW.plain (by simp) ?_
      rfl
    refine CmpW.N ?_
    refine gos ?_
    by_cases k2 : s2.length ≤ 150
    case neg =>
      refine CmpW.T ?_
      refine gos ?_
      refine RetW.plain (by simp) ?_
      rfl
    refine CmpW.N ?_
    refine gos ?_
    exact ⟨_, 0, fgts, ⟨k1, k2⟩, rfl, rfl⟩
  rintro e h ⟨⟨k1, k2⟩, rfl, rfl⟩
  have f0 := base_few n
  have f1 := turn_few w1 n1 f0 k1 (by omega)
  have f2 := turn_few w2 n2 f1 k2 (by omega)
  have dB := Base_does (G := GL m) n
  have dT := Turn_does (G := GL m) w1 n1 s1 (baseF n) (by have := f0.short; omega) (by have := f0.curs; omega) (by have := f0.units; omega)
  have dU := Turn_does (G := GL m) w2 n2 s2 (turnF w1 n1 s1 (baseF n)) (by have := f1.short; omega) (by have := f1.curs; omega) (by have := f1.units; omega)
  generalize turnF w1 n1 s1 (baseF n) = t at dT dU f1 f2
  generalize turnF w2 n2 s2 t = u at dU f2
  generalize baseF n = b at dB dT f0
  have cT := Check_does (m := m) f1.fits
  have wT := Why_does m t f1.fits
  rw [check_why t] at cT
  have cU := Check_does (m := m) f2.fits
  have wU := Why_does m u f2.fits
  rw [check_why u] at cU
  refine AC.cutF tab (fun e h => ∃ vt, e = [.any, .any, .any, .any, .any, .fptr (twC w2 n2 s2), .any, .ptr 0 vt 0 0] ++ List.replicate 32 .any ∧ h = [some ⟨vt, 31, 34, [tabC t]⟩]) ?_ ?_
  · refine DrawW.P (.takeF 0 (.take 1 (.fork (.cons 2 (.fork (.cons 3 (.take 4 (.take 5 .done)) (.cons 4 (.take 3 (.take 5 .done)) .nil))) (.cons 4 (.take 2 (.take 3 (.take 5 .done))) .nil))))) ?_
    (repeat' (first | exact trivial | refine CallW.pure dB rfl rfl ?_ | refine CallW.pure dT rfl rfl ?_ | refine gof ?_ | refine fun (vv : Nat) => ?_ | refine And.intro ?_ ?_))
    all_goals
      exact ⟨_, 1, fgts, vv, rfl, rfl⟩
  rintro e h ⟨vt, rfl, rfl⟩
  refine AC.wk (Wk.ptr (k := 7) (i := 0) rfl rfl rfl rfl rfl) ?_
  refine AC.cutF tab (fun e h => ∃ vt, e = [.any, .any, .any, .any, .any, .any, .any, .fptr (tabC t), .ptr 1 vt 0 0] ++ List.replicate 31 .any ∧ h = [none, some ⟨vt, 31, 34, [tabC u]⟩]) ?_ ?_
  · refine gos ?_
    refine CallW.pure dU rfl rfl ?_
    (repeat (first | refine gof ?_ | refine fun (vv : Nat) => ?_))
    exact ⟨_, 2, fgts, vv, rfl, rfl⟩
  rintro e h ⟨vu, rfl, rfl⟩
  refine AC.wk (Wk.ptr (k := 8) (i := 1) rfl rfl rfl rfl rfl) ?_
  refine AC.go tab ?_
  refine gos ?_
  refine DrawW.P (.takeF 0 (.takeF 2 (.take 1 (.take 3 (.take 4 (.take 5 (.takeF 6 (.takeF 8 (.take 7 (.take 9 (.take 10 (.take 11 (.take 12 .done))))))))))))) ?_
  (repeat' (first | exact trivial | refine CallW.pure cT rfl rfl ?_ | refine CallW.pure wT rfl rfl ?_ | refine CallW.pure cU rfl rfl ?_ | refine CallW.pure wU rfl rfl ?_ | refine CmpW.t (by simp) ?_ | refine gof ?_ | refine And.intro ?_ ?_))
  all_goals
    refine gos ?_
    refine RetW.plain (by simp) ?_
    rfl
structure TTw where
  which : Int
  n : Int
  s : List UInt8
def TTw.cells (x : TTw) : List AV := twC x.which x.n x.s
theorem ValidTwists_ok (m n : Int) (x y : TTw) (hx : x.s.length ≤ 140737488355328) (hy : y.s.length ≤ 140737488355328) : Does Tryz.prog (GL m) 4 [.int .i64 n, .agg x.cells, .agg y.cells] [] fun ae _ => ae = .ret (.bool true) :=
  ValidTwists_does m n x.which x.n y.which y.n x.s y.s (by omega) (by omega)
end Go.Proofs.YtpipbjfcbbdicaaGreatDoor

namespace Go.Proofs.YtpipbjfcbbdicaaGreatDoor
open Go Go.Abs Go.Opn
theorem oTwist : Opnd Tryz.prog 37 3 TTw.cells (fun x => x.s.length ≤ 140737488355328) := by
  have h := Opnd.struct (n := 1 + (1 + (1 + 0))) Tryz.underlying37 (by kernel_rfl) (OpndFs.cons oInt rfl (OpndFs.cons oInt rfl (OpndFs.cons oStr rfl (OpndFs.nil _))))
  exact h.map (fun x => (⟨x.1, x.2.1, x.2.2.1⟩ : TTw)) (fun _ => rfl) (fun x h => reach_le h.2.2.1)
end Go.Proofs.YtpipbjfcbbdicaaGreatDoor

namespace Go.Proofs.YtpipbjfcbbdicaaGreatDoor
open Go Go.Abs Go.Shelf Go.Opn
open Go.ChangeShapes Go.WideShapes Go.ChangeAt Go.RowKit

theorem validTwists_own : ownKnob Tryz.prog.godebug = none := by kernel_rfl
theorem validTwists_lout : laidOutB Tryz.prog = true := by kernel_rfl
noncomputable def validTwists_world (os : Os) : World := World.laidAll Tryz.prog os Rows.validTwistsRow.laid
theorem validTwists_laid (os : Os) (args : Array Value) : laidMet Tryz.prog Rows.validTwistsRow.laid ((validTwists_world os).forCall (fun _ _ => 0) ⟨#[], args, []⟩).memory :=
  laidMet_laidAll args (by kernel_rfl) (by kernel_rfl)
set_option maxRecDepth 100000 in
theorem validTwists_lifted (os : Os) (started : os.Started) (H : Type) (enc : TypeId × Value → H) :
    ReturnsInHanded {} Tryz.checked os 4 .any (fun w args => (Rows.validTwistsSpec.pre enc Tryz.prog Tryz.f4 Rows.validTwistsRow.domain false w args ∧ laidMetH Tryz.prog Rows.validTwistsRow.laid w) ∧ sizedMet enc Tryz.prog Tryz.f4 (OpenSpec.ofChange Rows.validTwistsSpec) false w args)
      (Rows.validTwistsSpec.post enc Tryz.prog Tryz.f4 false true false false) := by
  refine returns_both (C := Tryz.checked) (X := fun w _ => laidMetH Tryz.prog Rows.validTwistsRow.laid w) (fun _ _ _ hh h => h.of_heap hh) validTwists_own started (by kernel_rfl) Tryz.func4
    (ChangeSpec.witness_at (enc := enc) (C := Tryz.checked) (os := os) (X := fun w _ => laidMetH Tryz.prog Rows.validTwistsRow.laid w) false (validTwists_world os) #[.int .i64 0, .agg #[.int .i64 0, .int .i64 0, .string ⟨⟨[]⟩⟩], .agg #[.int .i64 0, .int .i64 0, .string ⟨⟨[]⟩⟩]] 8 (World.laidAll_os _ _ _) (by kernel_rfl) (by kernel_rfl) (by kernel_rfl) (by kernel_rfl) (by kernel_rfl) (validTwists_laid os _)) ?_
  intro W base args ds gs before hval0 hW _ hsz0 hL hsh _
  have hsz : (DataW.weightsEach Tryz.prog (Tryz.f4.params.toList ++ Rows.validTwistsSpec.plain.varTypes Tryz.prog) (ds ++ gs)).all (· ≤ reachBytes) = true := hsz0
  have hval : ∀ (j : Nat) t v, Tryz.f4.params[j]? = some t → args[j]? = some v → Value.okWide Tryz.prog W .any base t v := hval0
  have hW1 := hW
  obtain ⟨p, q, hA0, hV, rfl, hfz, hnd⟩ := hW
  have hA : DataW.TrodAll enc Tryz.prog W 0 (fun _ => true) true Tryz.f4.params.toList args.toList ds p := hA0
  rw [Tryz.params4] at hA hval hsz
  obtain ⟨v0, vs0, d0, e0, p0, q0, hargs, rfl, rfl, h0, r0⟩ := trodAll_cons hA
  obtain ⟨v1, vs1, d1, e1, p1, q1, rfl, rfl, rfl, h1, r1⟩ := trodAll_cons r0
  obtain ⟨v2, vs2, d2, e2, p2, q2, rfl, rfl, rfl, h2, r2⟩ := trodAll_cons r1
  obtain ⟨rfl, rfl, rfl⟩ := trodAll_nil r2
  obtain rfl : args = #[v0, v1, v2] := by cases args; simp_all
  obtain ⟨rfl, rfl⟩ := trodVars_none hV
  have l1 : ∀ x ∈ p1, x.block < W.heap.size := fun x hx => by simpa using hW1.lt x (by simp [hx])
  have l2 : ∀ x ∈ p2, x.block < W.heap.size := fun x hx => by simpa using hW1.lt x (by simp [hx])
  obtain ⟨x0, rfl, rfl, rfl, w0⟩ := open_int Tryz.underlying3 (hval 0 3 v0 rfl rfl) h0
  obtain ⟨us1, rfl, _⟩ := okWide_struct Tryz.underlying37 (hval 1 37 v1 rfl rfl)
  have z1 : Sized Tryz.prog 37 d1 := Sized.of_each hsz (i := 1) rfl rfl
  obtain ⟨x1, w1, k1⟩ := oTwist.agg h1 z1
  obtain ⟨us2, rfl, _⟩ := okWide_struct Tryz.underlying37 (hval 2 37 v2 rfl rfl)
  have z2 : Sized Tryz.prog 37 d2 := Sized.of_each hsz (i := 2) rfl rfl
  obtain ⟨x2, w2, k2⟩ := oTwist.agg h2 z2
  clear hA0 hval0 hsz0 hsz
  have hL1 : laidMet Tryz.prog Rows.validTwistsRow.laid W := hL
  have hU : Lib.Utf8Tabs 0 1 W :=
    utf8Tabs_of_reads (ρ := Tryz.lays197_ren) { Tryz.lays197 with } ⟨by kernel_rfl, by kernel_rfl, by kernel_rfl, by kernel_rfl, by kernel_rfl, by kernel_rfl, by kernel_rfl⟩
      (Lib.laidMet.reads hL1 (.tail _ (.tail _ (.tail _ (.tail _ (.tail _ (.tail _ (.head _)))))))) (Lib.laidMet.reads hL1 (.tail _ (.tail _ (.tail _ (.head _)))))
  obtain ⟨m, hm⟩ : ∃ m, W.cell? ⟨5, 0, none⟩ = some (.int .i64 m) := cell_of_shapedOpen_int (P := Tryz.prog) (t := 3) (zero := #[.int .i64 0]) hsh (of_decide_eq_true (by kernel_rfl)) (by kernel_rfl) rfl (by kernel_rfl) (by kernel_rfl) Tryz.underlying3
  refine (Does.law (ValidTwists_ok m x0 x1 x2 w1 w2) Tryz.func4 rfl rfl (top_GL hU hm) (cargs := #[.int .i64 x0, .agg us1, .agg us2]) (by simp only [RepL]; exact ⟨_, _, rfl, (by simp only [RepV, RepF]), _, _, rfl, k1, _, _, rfl, k2, rfl⟩)).mono fun e W2 ⟨he, bel⟩ => ?_
  subst he
  exact ⟨_, rfl, _, _, _, [], _, [], hW1, trodAll_mk1 (shut_bool Tryz.underlying4 _), ⟨_, _, (shut_int Tryz.underlying3 w0), ⟨_, _, (Below.trod validTwists_lout (by kernel_rfl) (of_decide_eq_true (by kernel_rfl)) h1 bel l1), ⟨_, _, (Below.trod validTwists_lout (by kernel_rfl) (of_decide_eq_true (by kernel_rfl)) h2 bel l2), trodAll_mk0, rfl⟩, rfl⟩, rfl⟩, rfl, bel.frame _, fun h => by cases h⟩

theorem validTwists_holds : Rows.ValidTwistsSaid :=
  OpenClaim.holds_of_wide 4 Tryz.f4 rfl rfl rfl rfl rfl rfl rfl ⟨rfl, rfl, rfl, rfl, rfl⟩ rfl rfl rfl rfl rfl (by kernel_rfl) Tryz.func4 (by kernel_rfl)
    (of_decide_eq_true (by kernel_rfl)) (by unfold Func.isWrapper; rw [if_neg (of_decide_eq_false (by kernel_rfl))]; exact ⟨rfl, rfl⟩)
    (fun os started H enc _ => validTwists_lifted os started H enc)
end Go.Proofs.YtpipbjfcbbdicaaGreatDoor

namespace Go.Proofs.YtpipbjfcbbdicaaGreatDoor
open Go
theorem validTwists_card : Rows.ValidTwistsCardSaid :=
  Claim7.holds_tied_plain_at .later [] [.data, .data, .data, .data, .sentinel, .sentinel, .pinned] true (true, "1428e2b7c30448e90fe1d2ac7527b8b28158f67c7dd2b7ee40bb4a17c3521609") true
    validTwists_holds (fun _ h => by cases h) (by kernel_rfl) (fun _ h => by cases h) validTwists_row_tie rfl ⟨rfl, rfl⟩ (by kernel_rfl) rfl
    (fun f fn hf hfn => by
      obtain rfl : f = 4 := Option.some.inj ((show Tryz.prog.funcNamed "florin/florinlaw16.ValidTwists" = some 4 by kernel_rfl).symm.trans hf) |>.symm
      obtain rfl : fn = Tryz.f4 := (Option.some.inj (Tryz.func4.symm.trans hfn)).symm
      exact ⟨by kernel_rfl, fun j t ht => by
        rw [Tryz.params4] at ht
        have h3 : t = 3 ∨ t = 37 := by
          rcases j with _ | _ | _ | j
          · exact .inl (by simpa using ht.symm)
          · exact .inr (by simpa using ht.symm)
          · exact .inr (by simpa using ht.symm)
          · simp at ht
        rcases h3 with rfl | rfl
        · exact (show Tryz.prog.wantsStandIn 3 = false by kernel_rfl)
        · exact (show Tryz.prog.wantsStandIn 37 = false by kernel_rfl)⟩)
    (by kernel_rfl)
#print axioms validTwists_card
end Go.Proofs.YtpipbjfcbbdicaaGreatDoor
