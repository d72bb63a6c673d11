/- The statement's own tables. -/
import Derived.Test.YtjjppmbojcgdgaaGreatDoorJ15
import Derived.Test.YtjjppmbojcgdgaaGreatDoorJ24
set_option linter.unusedVariables false
set_option linter.unusedSimpArgs false
set_option maxRecDepth 100000
set_option maxHeartbeats 4000000

namespace Go.Proofs.YtjjppmbojcgdgaaGreatDoor
open Go Go.Abs
attribute [local irreducible] DrawW CallW RetW AC Does CmpW
variable {G : Globs}
def sevenL : List (List UInt8) := [[48, 75], [48, 48, 75], [48, 48, 48, 75], [48, 77], [48, 48, 77], [48, 48, 48, 77], [48, 66]]
def shortR : List TRow := [⟨3, oneT [48, 75]⟩, ⟨4, oneT [48, 48, 75]⟩, ⟨5, oneT [48, 48, 48, 75]⟩, ⟨6, oneT [48, 77]⟩, ⟨7, oneT [48, 48, 77]⟩, ⟨8, oneT [48, 48, 48, 77]⟩, ⟨9, oneT [48, 66]⟩]
def mshortR : List TRow := [⟨3, oneT [194, 164, 48, 75]⟩, ⟨4, oneT [194, 164, 48, 48, 75]⟩, ⟨5, oneT [194, 164, 48, 48, 48, 75]⟩, ⟨6, oneT [194, 164, 48, 77]⟩, ⟨7, oneT [194, 164, 48, 48, 77]⟩, ⟨8, oneT [194, 164, 48, 48, 48, 77]⟩, ⟨9, oneT [194, 164, 48, 66]⟩]
theorem shortR_snoc {i : Nat} {s : List UInt8} (h : sevenL[i]? = some s) : (shortR.take i).map encR ++ [[.int .i64 (3 + (i : Int)), txtL (oneT s)]] = (shortR.take (i + 1)).map encR := by
  match i, h with
  | 0, h => cases h; rfl
  | 1, h => cases h; rfl
  | 2, h => cases h; rfl
  | 3, h => cases h; rfl
  | 4, h => cases h; rfl
  | 5, h => cases h; rfl
  | 6, h => cases h; rfl
theorem mshortR_snoc {i : Nat} {s : List UInt8} (h : sevenL[i]? = some s) : (mshortR.take i).map encR ++ [[.int .i64 (3 + (i : Int)), txtL (oneT ([194, 164] ++ s))]] = (mshortR.take (i + 1)).map encR := by
  match i, h with
  | 0, h => cases h; rfl
  | 1, h => cases h; rfl
  | 2, h => cases h; rfl
  | 3, h => cases h; rfl
  | 4, h => cases h; rfl
  | 5, h => cases h; rfl
  | 6, h => cases h; rfl
theorem sevenL_len {i : Nat} {s : List UInt8} (h : sevenL[i]? = some s) : s.length ≤ 4 := by
  have h1 : ∀ x ∈ sevenL, x.length ≤ 4 := by decide
  exact h1 s (List.mem_of_getElem? h)
def longR : List TRow := [⟨3, twoT [48, 32, 116, 104, 111, 117, 115, 97, 110, 100] [48, 32, 116, 104, 111, 117, 115, 97, 110, 100, 115]⟩, ⟨6, twoT [48, 32, 109, 105, 108, 108, 105, 111, 110] [48, 32, 109, 105, 108, 108, 105, 111, 110, 115]⟩]
def cursB : List TCur := [⟨[67, 72, 70], [], [], [], 2, 0, 2, 5⟩, ⟨[69, 85, 82], [226, 130, 172], [226, 130, 172], twoT [101, 117, 114, 111] [101, 117, 114, 111, 115], 2, 0, 2, 0⟩,
  ⟨[74, 80, 89], [194, 165], [], oneT [121, 101, 110], 0, 0, 0, 0⟩, ⟨[85, 83, 68], [36], [36], twoT [100, 111, 108, 108, 97, 114] [100, 111, 108, 108, 97, 114, 115], 2, 0, 2, 0⟩]
def untsB : List TUnt := [⟨[100, 97, 121], twoT [123, 48, 125, 32, 100, 97, 121] [123, 48, 125, 32, 100, 97, 121, 115]⟩, ⟨[107, 109], oneT [123, 48, 125, 32, 107, 109]⟩]
def munB : List TTxt := oneT [123, 48, 125, 32, 123, 49, 125]
def befS : TSpc := ⟨[91, 94, 92, 117, 123, 50, 52, 125, 92, 117, 123, 50, 48, 97, 99, 125, 92, 117, 123, 97, 53, 125, 40, 93], [91, 48, 45, 57, 92, 117, 123, 54, 54, 48, 125, 45, 92, 117, 123, 54, 54, 57, 125, 93], [194, 160]⟩
def zeroC : List AV := [.str [], .str [], .str [], .str [], .str [], .str [], .str [], .str [], .str [], .str [], .str [], .str [], .str [], .str [], .str [], .str [], .int .i64 0, .str [], .str [], .str [], .str [], .str [], .nils, .nils, .nils, .nils, .nils, .nils, .str [], .str [], .str [], .str [], .str [], .str []]
def bsC (c22 c23 c24 c25 c26 c27 : AV) (b a : TSpc) : List AV := [.str plainD.d0, .str plainD.d1, .str plainD.d2, .str plainD.d3, .str plainD.d4, .str plainD.d5, .str plainD.d6, .str plainD.d7, .str plainD.d8, .str plainD.d9, .str [45],
  .str [43], .str [37], .str [226, 128, 176], .str [46], .str [44], .int .i64 1, .str [35, 44, 35, 35, 48, 46, 35, 35, 35], .str [35, 44, 35, 35, 48, 37], .str [194, 164, 35, 44, 35, 35, 48, 46, 48, 48],
  .str [194, 164, 35, 44, 35, 35, 48, 46, 48, 48, 59, 40, 194, 164, 35, 44, 35, 35, 48, 46, 48, 48, 41], .str [111, 110, 101, 58, 32, 105, 32, 61, 32, 49, 32, 97, 110, 100, 32, 118, 32, 61, 32, 48],
  c22, c23, c24, c25, c26, c27, .str b.cur, .str b.num, .str b.ins, .str a.cur, .str a.num, .str a.ins]
def noSpc : TSpc := ⟨[], [], []⟩
def base0 : TTab := { dg := plainD, minus := [45], plus := [43], percent := [37], permille := [226, 128, 176], point := [46], comma := [44], minGroup := 1, decimal := [35, 44, 35, 35, 48, 46, 35, 35, 35], per := [35, 44, 35, 35, 48, 37], money := [194, 164, 35, 44, 35, 35, 48, 46, 48, 48], account := [194, 164, 35, 44, 35, 35, 48, 46, 48, 48, 59, 40, 194, 164, 35, 44, 35, 35, 48, 46, 48, 48, 41], rules := [111, 110, 101, 58, 32, 105, 32, 61, 32, 49, 32, 97, 110, 100, 32, 118, 32, 61, 32, 48], short := shortR, long := longR, mshort := mshortR, curs := cursB, units := untsB, munit := munB, before := befS, after := befS }
def untP1 : List TUnt := [⟨[100, 97, 121], [⟨1, [123, 48, 125, 32, 100, 122, 105, 101, 197, 132]⟩, ⟨4, [123, 48, 125, 32, 100, 110, 105]⟩, ⟨5, [123, 48, 125, 32, 100, 110, 105, 97]⟩]⟩, ⟨[107, 109], oneT [123, 48, 125, 32, 107, 109]⟩]
def base1 : TTab := { base0 with point := [44], comma := [194, 160], minus := [226, 136, 146], minGroup := 2, money := [35, 44, 35, 35, 48, 46, 48, 48, 194, 160, 194, 164], account := [35, 44, 35, 35, 48, 46, 48, 48, 194, 160, 194, 164], rules := [111, 110, 101, 58, 32, 105, 32, 61, 32, 49, 32, 97, 110, 100, 32, 118, 32, 61, 32, 48, 59, 32, 102, 101, 119, 58, 32, 118, 32, 61, 32, 48, 32, 97, 110, 100, 32, 105, 32, 37, 32, 49, 48, 32, 61, 32, 50, 46, 46, 52, 32, 97, 110, 100, 32, 105, 32, 37, 32, 49, 48, 48, 32, 33, 61, 32, 49, 50, 46, 46, 49, 52, 59, 32, 109, 97, 110, 121, 58, 32, 118, 32, 61, 32, 48, 32, 97, 110, 100, 32, 105, 32, 33, 61, 32, 49, 32, 97, 110, 100, 32, 105, 32, 37, 32, 49, 48, 32, 61, 32, 48, 46, 46, 49, 32, 111, 114, 32, 118, 32, 61, 32, 48, 32, 97, 110, 100, 32, 105, 32, 37, 32, 49, 48, 32, 61, 32, 53, 46, 46, 57, 32, 111, 114, 32, 118, 32, 61, 32, 48, 32, 97, 110, 100, 32, 105, 32, 37, 32, 49, 48, 48, 32, 61, 32, 49, 50, 46, 46, 49, 52], units := untP1 }
def digA : TDig := ⟨[217, 160], [217, 161], [217, 162], [217, 163], [217, 164], [217, 165], [217, 166], [217, 167], [217, 168], [217, 169]⟩
def short2 : List TRow := [⟨0, oneT [48]⟩, ⟨4, oneT [48, 87]⟩, ⟨8, oneT [48, 89]⟩]
def base2 : TTab := { base0 with dg := digA, point := [217, 171], comma := [217, 172], decimal := [35, 44, 35, 35, 44, 35, 35, 48, 46, 35, 35, 35], per := [37, 35, 44, 35, 35, 48], money := [35, 44, 35, 35, 48, 46, 48, 48, 194, 164, 194, 164, 194, 164, 59, 194, 164, 45, 35, 44, 35, 35, 48, 46, 48, 48], rules := [122, 101, 114, 111, 58, 32, 110, 32, 61, 32, 48, 59, 32, 111, 110, 101, 58, 32, 110, 32, 61, 32, 49, 59, 32, 116, 119, 111, 58, 32, 110, 32, 61, 32, 50, 59, 32, 102, 101, 119, 58, 32, 110, 32, 37, 32, 49, 48, 48, 32, 61, 32, 51, 46, 46, 49, 48, 59, 32, 109, 97, 110, 121, 58, 32, 110, 32, 37, 32, 49, 48, 48, 32, 61, 32, 49, 49, 46, 46, 57, 57], short := short2 }
def baseK (n : Int) : Int := (IntKind.u64.wrap n).tmod 3
def baseF (n : Int) : TTab := if baseK n = 1 then base1 else if baseK n = 2 then base2 else base0
theorem baseK_three (n : Int) : baseK n = 0 ∨ baseK n = 1 ∨ baseK n = 2 := by
  have h : 0 ≤ IntKind.u64.wrap n := by
    unfold IntKind.wrap
    simp only [IntKind.bits, IntKind.signed]
    simp
    omega
  unfold baseK
  rw [Int.tmod_eq_emod_of_nonneg h]
  omega
theorem Base_does (n : Int) : Does Tryz.prog G 29 [.int .i64 n] [] fun ae _ => ae = .ret (.agg (tabC (baseF n))) := by
  refine Does.bodyA tab Tryz.func29 rfl rfl ?_
  refine AC.step tab ?_
  refine gos ?_
  intro v0
  refine gos ?_
  refine AC.cutF tab (fun e h => ∃ v1, e = [.int .i64 n, .any, .ptr 0 v0 0 0, .ptr 1 v1 0 0] ++ List.replicate 114 .any ∧ h = [some ⟨v0, 65, 34, [zeroC]⟩, some ⟨v1, 65, 34, [bsC .nils .nils .nils .nils .nils .nils noSpc noSpc]⟩]) ?_ ?_
  · refine gos ?_
    refine CallW.pure Plain_does rfl rfl ?_
    refine gos ?_
    intro v1
    refine gos ?_
    exact ⟨_, 2, fgts, v1, rfl, rfl⟩
  rintro e h ⟨v1, rfl, rfl⟩
  refine AC.ownC 1 22 148 2 (cs := bsC .nils .nils .nils .nils .nils .nils noSpc noSpc) rfl rfl rfl (by omega) fun va => ?_
  refine AC.ownC 1 24 148 2 (cs := bsC (.sl 2 va) .nils .nils .nils .nils .nils noSpc noSpc) rfl rfl rfl (by omega) fun vb => ?_
  refine AC.cutA (fun e h => ∃ va vb L, L = 7 ∧ e = [.int .i64 n, .any, .ptr 0 v0 0 0, .ptr 1 v1 0 0] ++ List.replicate 114 .any ∧ h = [some ⟨v0, 65, 34, [zeroC]⟩, some ⟨v1, 65, 34, [bsC (.sl 2 va) .nils (.sl 3 vb) .nils .nils .nils noSpc noSpc]⟩, some ⟨va, 148, 2, (shortR.take L).map encR⟩, some ⟨vb, 148, 2, (mshortR.take L).map encR⟩]) ?_ ?_
  · refine AC.step tab ?_
    (repeat (first | refine gof ?_ | refine fun (vv : Nat) => ?_))
    refine AC.wk (Wk.row (k := 9) (i := 4) (o := ⟨vv, 9, 1, sevenL.map encS1⟩) rfl rfl rfl rfl) ?_
    refine AC.blk ?_
    refine AC.loopA (fun f e h => ∃ (i : Nat) (va vb : Nat), f + i = 8 ∧ i ≤ 7 ∧ e = [.int .i64 n, .any, .ptr 0 v0 0 0, .ptr 1 v1 0 0, .any, .any, .any, .any, .any, .fsl (sevenL.map encS1), .int .i64 7, .int .i64 i] ++ List.replicate 106 .any ∧
       h = [some ⟨v0, 65, 34, [zeroC]⟩, some ⟨v1, 65, 34, [bsC (.sl 2 va) .nils (.sl 3 vb) .nils .nils .nils noSpc noSpc]⟩, some ⟨va, 148, 2, (shortR.take i).map encR⟩, some ⟨vb, 148, 2, (mshortR.take i).map encR⟩, none])
      8 ⟨_, fgts, 0, va, vb, by omega, by omega, rfl, rfl⟩ ?_
    rintro f e h ⟨i, va, vb, hf, hi, rfl, rfl⟩
    refine AC.step tab ?_
    refine gos ?_
    by_cases h7 : i < 7
    case neg =>
      refine CmpW.N ?_
      refine gos ?_
      refine AC.step tab ?_
      refine gos ?_
      obtain rfl : i = 7 := by omega
      exact ⟨_, 4, fgts, va, vb, 7, rfl, rfl, rfl⟩
    obtain ⟨s, hs⟩ : ∃ s, sevenL[i]? = some s := ⟨_, List.getElem?_eq_getElem (by simp [sevenL]; omega)⟩
    refine CmpW.T ?_
    refine gos ?_
    refine AC.step tab ?_
    refine gos ?_
    refine AC.cutA (fun e h => ∃ vc vd, e = [.int .i64 n, .any, .ptr 0 v0 0 0, .ptr 1 v1 0 0, .any, .any, .any, .any, .any, .fsl (sevenL.map encS1), .int .i64 7, .int .i64 i] ++ List.replicate 106 .any ∧
       h = [some ⟨v0, 65, 34, [zeroC]⟩, some ⟨v1, 65, 34, [bsC (.sl 2 vc) .nils (.sl 3 vd) .nils .nils .nils noSpc noSpc]⟩, some ⟨vc, 148, 2, (shortR.take (i + 1)).map encR⟩, some ⟨vd, 148, 2, (mshortR.take (i + 1)).map encR⟩, none]) ?_ ?_
    · refine AC.blk ?_
      refine AC.step tab ?_
      refine gos ?_
      have ls : (sevenL.map encS1).length = 7 := rfl
      refine And.intro (encS1_one sevenL) (And.intro (by omega) ⟨encS1 s, map_get hs, ?_⟩)
      refine gos ?_
      refine AC.cutF tab (fun e h => ∃ vc, e = [.int .i64 n, .any, .ptr 0 v0 0 0, .ptr 1 v1 0 0, .int .i64 i, .str s, .any, .any, .any, .fsl (sevenL.map encS1), .int .i64 7, .int .i64 i] ++ List.replicate 106 .any ∧
         h = [some ⟨v0, 65, 34, [zeroC]⟩, some ⟨v1, 65, 34, [bsC (.sl 2 vc) .nils (.sl 3 vb) .nils .nils .nils noSpc noSpc]⟩, some ⟨vc, 148, 2, (shortR.take (i + 1)).map encR⟩, some ⟨vb, 148, 2, (mshortR.take i).map encR⟩, none]) ?_ ?_
      · refine gos ?_
        refine DrawW.P (.take 0 (.take 2 (.take 3 (.take 4 (.fork (.cons 1 (.take 5 (.take 6 (.take 7 (.take 8 (.take 9 (.take 10 .done)))))) (.cons 5 (.take 6 (.fork (.cons 1 (.take 7 (.take 8 (.take 9 (.take 10 .done)))) (.cons 7 (.take 1 (.take 8 (.take 9 (.take 10 .done)))) .nil)))) .nil))))))) ?_
        (repeat' (first | exact trivial | refine CallW.pure (One_does s) rfl rfl ?_ | refine gof ?_ | refine fun (vv : Nat) => ?_ | refine And.intro ?_ ?_))
        all_goals
          refine gos ?_
          refine ⟨_, 5, fgts, vv, rfl, ?_⟩
          rw [← shortR_snoc hs]
          rfl
      rintro e h ⟨vc, rfl, rfl⟩
      refine AC.go tab ?_
      refine gos ?_
      have hb : ((([194, 164] : List UInt8).length + s.length : Nat) : Int) ≤ 9223372036854775807 := by have := sevenL_len hs; simp; omega
      refine DrawW.P (.take 0 (.take 2 (.take 3 (.take 4 (.take 5 (.fork (.cons 1 (.take 6 (.take 7 (.take 8 (.take 9 (.take 10 (.take 11 .done)))))) (.cons 6 (.take 7 (.fork (.cons 1 (.take 8 (.take 9 (.take 10 (.take 11 .done)))) (.cons 8 (.take 1 (.take 9 (.take 10 (.take 11 .done)))) .nil)))) .nil)))))))) ?_
      (repeat' (first | exact trivial | exact hb | refine CallW.pure (One_does ([194, 164] ++ s)) rfl rfl ?_ | refine gof ?_ | refine fun (vv : Nat) => ?_ | refine And.intro ?_ ?_))
      all_goals
        refine gos ?_
        refine ⟨_, 5, fgts, vc, vv, rfl, ?_⟩
        rw [← mshortR_snoc hs]
        rfl
    rintro e h ⟨vc, vd, rfl, rfl⟩
    refine AC.go tab ?_
    refine gos ?_
    exact ⟨f - 1, _, 5, by omega, fgts, i + 1, vc, vd, by omega, by omega, rfl, rfl⟩
  rintro e h ⟨va, vb, L, rfl, rfl, rfl⟩
  refine AC.rowC 2 1 0 22 rfl rfl (by omega) rfl rfl rfl rfl ?_
  refine AC.rowC 3 1 0 24 rfl rfl (by omega) rfl rfl rfl rfl ?_
  refine AC.cutF tab (fun e h => ∃ w, e = [.int .i64 n, .any, .ptr 0 v0 0 0, .ptr 1 v1 0 0] ++ List.replicate 114 .any ∧
    h = [some ⟨v0, 65, 34, [zeroC]⟩, some ⟨v1, 65, 34, [bsC (rowL shortR) (.sl 4 w) (rowL mshortR) .nils .nils .nils noSpc noSpc]⟩, none, none, some ⟨w, 148, 2, longR.map encR⟩]) ?_ ?_
  · refine gos ?_
    refine CallW.pure (Two_does _ _) rfl rfl ?_
    refine gos ?_
    refine CallW.pure (Two_does _ _) rfl rfl ?_
    (repeat (first | refine gof ?_ | refine fun (vv : Nat) => ?_))
    exact ⟨_, 5, fgts, vv, rfl, rfl⟩
  rintro e h ⟨w8, rfl, rfl⟩
  refine AC.rowC 4 1 0 23 rfl rfl (by omega) rfl rfl rfl rfl ?_
  refine AC.cutF tab (fun e h => ∃ w, e = [.int .i64 n, .any, .ptr 0 v0 0 0, .ptr 1 v1 0 0] ++ List.replicate 114 .any ∧
    h = [some ⟨v0, 65, 34, [zeroC]⟩, some ⟨v1, 65, 34, [bsC (rowL shortR) (rowL longR) (rowL mshortR) (.sl 5 w) .nils .nils noSpc noSpc]⟩, none, none, none,
      some ⟨w, 150, 8, [[.str [67, 72, 70], .str [], .str [], .nils, .int .i64 2, .int .i64 0, .int .i64 2, .int .i64 5]] ++ (cursB.drop 1).map encCu⟩]) ?_ ?_
  · refine gos ?_
    refine CallW.pure (Two_does _ _) rfl rfl ?_
    refine gos ?_
    refine CallW.pure (One_does _) rfl rfl ?_
    refine gos ?_
    refine CallW.pure (Two_does _ _) rfl rfl ?_
    (repeat (first | refine gof ?_ | refine fun (vv : Nat) => ?_))
    exact ⟨_, 6, fgts, vv, rfl, rfl⟩
  rintro e h ⟨w9, rfl, rfl⟩
  refine AC.nilC 5 0 3 rfl rfl rfl ?_
  refine AC.rowC 5 1 0 25 rfl rfl (by omega) rfl rfl rfl rfl ?_
  refine AC.cutF tab (fun e h => ∃ w, e = [.int .i64 n, .any, .ptr 0 v0 0 0, .ptr 1 v1 0 0] ++ List.replicate 114 .any ∧
    h = [some ⟨v0, 65, 34, [zeroC]⟩, some ⟨v1, 65, 34, [bsC (rowL shortR) (rowL longR) (rowL mshortR) (curL cursB) (.sl 6 w) .nils noSpc noSpc]⟩, none, none, none, none,
      some ⟨w, 152, 2, untsB.map encU⟩]) ?_ ?_
  · refine gos ?_
    refine CallW.pure (Two_does _ _) rfl rfl ?_
    refine gos ?_
    refine CallW.pure (One_does _) rfl rfl ?_
    (repeat (first | refine gof ?_ | refine fun (vv : Nat) => ?_))
    exact ⟨_, 7, fgts, vv, rfl, rfl⟩
  rintro e h ⟨w, rfl, rfl⟩
  refine AC.step tab ?_
  refine gos ?_
  refine CallW.pure (One_does _) rfl rfl ?_
  refine gos ?_
  refine AC.step tab ?_
  refine gos ?_
  refine AC.cutF tab (fun e h => e = [.int .i64 n, .any, .ptr 0 v0 0 0, .ptr 1 v1 0 0] ++ List.replicate 114 .any ∧
    h = [some ⟨v0, 65, 34, [zeroC]⟩, some ⟨v1, 65, 34, [bsC (rowL shortR) (rowL longR) (rowL mshortR) (curL cursB) (.sl 6 w) (txtL munB) befS befS]⟩, none, none, none, none,
      some ⟨w, 152, 2, untsB.map encU⟩]) ?_ ?_
  · refine gos ?_
    exact ⟨_, 7, fgts, rfl, rfl⟩
  rintro e h ⟨rfl, rfl⟩
  have hF : ∀ t, (if baseK n = 1 then base1 else if baseK n = 2 then base2 else base0) = t → baseF n = t := fun t h => h
  rcases baseK_three n with hk | hk | hk <;> rw [hk] at hF
  · rw [hF base0 rfl]
    refine AC.cutF tab (fun e h => e = [.int .i64 n, .any, .ptr 0 v0 0 0, .ptr 1 v1 0 0] ++ List.replicate 114 .any ∧
      h = [some ⟨v0, 65, 34, [zeroC]⟩, some ⟨v1, 65, 34, [bsC (rowL shortR) (rowL longR) (rowL mshortR) (curL cursB) (.sl 6 w) (txtL munB) befS befS]⟩, none, none, none, none,
      some ⟨w, 152, 2, untsB.map encU⟩]) ?_ ?_
    · refine gos ?_
      refine And.intro (by decide) ⟨0, hk, ?_⟩
      refine gos ?_
      exact ⟨_, 7, fgts, rfl, rfl⟩
    rintro e h ⟨rfl, rfl⟩
    refine AC.rowC 6 1 0 26 rfl rfl (by omega) rfl rfl rfl rfl ?_
    refine AC.go tab ?_
    refine gos ?_
    refine RetW.plain (by simp) ?_
    rfl
  · rw [hF base1 rfl]
    refine AC.cutF tab (fun e h => ∃ wt, e = [.int .i64 n, .any, .ptr 0 v0 0 0, .ptr 1 v1 0 0] ++ List.replicate 114 .any ∧
      h = [some ⟨v0, 65, 34, [zeroC]⟩, some ⟨v1, 65, 34, [(tabC base1).set 26 (.sl 6 w)]⟩, none, none, none, none,
      some ⟨w, 152, 2, [[.str [100, 97, 121], .sl 7 wt], encU ⟨[107, 109], oneT [123, 48, 125, 32, 107, 109]⟩]⟩, some ⟨wt, 145, 2, (untP1.flatMap fun u => u.texts.take 3).take 3 |>.map encT⟩]) ?_ ?_
    · refine gos ?_
      refine And.intro (by decide) ⟨1, hk, ?_⟩
      (repeat (first | refine gof ?_ | refine fun (vv : Nat) => ?_))
      refine And.intro (And.intro (of_decide_eq_true rfl) (of_decide_eq_true rfl)) ?_
      refine gos ?_
      exact ⟨_, 8, fgts, vv, rfl, rfl⟩
    rintro e h ⟨wt, rfl, rfl⟩
    refine AC.rowC 7 6 0 1 rfl rfl (by omega) rfl rfl rfl rfl ?_
    refine AC.rowC 6 1 0 26 rfl rfl (by omega) rfl rfl rfl rfl ?_
    refine AC.go tab ?_
    refine gos ?_
    refine RetW.plain (by simp) ?_
    rfl
  · rw [hF base2 rfl]
    refine AC.cutF tab (fun e h => ∃ x0 x1 x2 x3 x4 x5 x6 x7 x8 x9 ws, e = [.int .i64 n, .any, .ptr 0 v0 0 0, .ptr 1 v1 0 0] ++ List.replicate 114 .any ∧
      h = [some ⟨v0, 65, 34, [zeroC]⟩, some ⟨v1, 65, 34, [((tabC base2).set 26 (.sl 6 w)).set 22 (.sl 17 ws)]⟩, none, none, none, none,
      some ⟨w, 152, 2, untsB.map encU⟩, x0, x1, x2, x3, x4, x5, x6, x7, x8, x9, some ⟨ws, 148, 2, short2.map encR⟩]) ?_ ?_
    · refine gos ?_
      refine And.intro (by decide) ⟨2, hk, ?_⟩
      refine gos ?_
      refine AC.rounds tab 11 ?_
      (repeat (first | refine gof ?_ | refine fun (vv : Nat) => ?_))
      refine ⟨[217, 160], rfl, ?_⟩
      (repeat (first | refine gof ?_ | refine fun (vv : Nat) => ?_))
      refine ⟨[217, 161], rfl, ?_⟩
      (repeat (first | refine gof ?_ | refine fun (vv : Nat) => ?_))
      refine ⟨[217, 162], rfl, ?_⟩
      (repeat (first | refine gof ?_ | refine fun (vv : Nat) => ?_))
      refine ⟨[217, 163], rfl, ?_⟩
      (repeat (first | refine gof ?_ | refine fun (vv : Nat) => ?_))
      refine ⟨[217, 164], rfl, ?_⟩
      (repeat (first | refine gof ?_ | refine fun (vv : Nat) => ?_))
      refine ⟨[217, 165], rfl, ?_⟩
      (repeat (first | refine gof ?_ | refine fun (vv : Nat) => ?_))
      refine ⟨[217, 166], rfl, ?_⟩
      (repeat (first | refine gof ?_ | refine fun (vv : Nat) => ?_))
      refine ⟨[217, 167], rfl, ?_⟩
      (repeat (first | refine gof ?_ | refine fun (vv : Nat) => ?_))
      refine ⟨[217, 168], rfl, ?_⟩
      (repeat (first | refine gof ?_ | refine fun (vv : Nat) => ?_))
      refine ⟨[217, 169], rfl, ?_⟩
      (repeat (first | refine gof ?_ | refine fun (vv : Nat) => ?_))
      refine CallW.pure (One_does _) rfl rfl ?_
      refine gos ?_
      refine CallW.pure (One_does _) rfl rfl ?_
      refine gos ?_
      refine CallW.pure (One_does _) rfl rfl ?_
      (repeat (first | refine gof ?_ | refine fun (vv : Nat) => ?_))
      exact ⟨_, 18, fgts, _, _, _, _, _, _, _, _, _, _, vv, rfl, rfl⟩
    rintro e h ⟨x0, x1, x2, x3, x4, x5, x6, x7, x8, x9, ws, rfl, rfl⟩
    refine AC.rowC 6 1 0 26 rfl rfl (by omega) rfl rfl rfl rfl ?_
    refine AC.rowC 17 1 0 22 rfl rfl (by omega) rfl rfl rfl rfl ?_
    refine AC.go tab ?_
    refine gos ?_
    refine RetW.plain (by simp) ?_
    rfl
end Go.Proofs.YtjjppmbojcgdgaaGreatDoor
