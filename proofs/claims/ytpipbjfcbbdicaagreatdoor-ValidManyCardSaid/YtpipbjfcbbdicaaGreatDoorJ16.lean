/- The statement's own count of signs. -/
import Derived.Test.YtpipbjfcbbdicaaGreatDoorJ05
import Derived.Test.YtpipbjfcbbdicaaGreatDoorJ01
import Derived.Test.YtpipbjfcbbdicaaGreatDoorJ15
import Derived.Test.YtpipbjfcbbdicaaGreatDoorJ14
import Derived.Test.YtpipbjfcbbdicaaGreatDoorJ09
set_option linter.unusedVariables false
set_option linter.unusedSimpArgs false
set_option maxRecDepth 100000
set_option maxHeartbeats 4000000

namespace Go.Proofs.YtpipbjfcbbdicaaGreatDoor
open Go Go.Abs
attribute [local irreducible] DrawW CallW RetW AC Does CmpW
variable {G : Globs}

def oneT (s : List UInt8) : List TTxt := [⟨5, s⟩]
def twoT (s t : List UInt8) : List TTxt := [⟨1, s⟩, ⟨5, t⟩]
theorem One_does (s : List UInt8) : Does Tryz.prog G 12 [.str s] [] fun ae _ => ae = .ret (txtL (oneT s)) := by
  refine Does.body tab Tryz.func12 rfl rfl ?_
  (repeat (first | refine gof ?_ | refine fun (vv : Nat) => ?_))
  refine RetW.wk (r' := txtL (oneT s)) (by simp) ?_ (Wk.row (k := 0) (i := 0) (o := ⟨vv, 87, 2, [[.int .i64 5, .str s]]⟩) rfl rfl rfl rfl) ?_ <;> rfl
theorem Two_does (s t : List UInt8) : Does Tryz.prog G 50 [.str s, .str t] [] fun ae _ => ae = .ret (txtL (twoT s t)) := by
  refine Does.body tab Tryz.func50 rfl rfl ?_
  (repeat (first | refine gof ?_ | refine fun (vv : Nat) => ?_))
  refine RetW.wk (r' := txtL (twoT s t)) (by simp) ?_ (Wk.row (k := 0) (i := 0) (o := ⟨vv, 87, 2, [[.int .i64 1, .str s], [.int .i64 5, .str t]]⟩) rfl rfl rfl rfl) ?_ <;> rfl
def plainD : TDig := ⟨[48], [49], [50], [51], [52], [53], [54], [55], [56], [57]⟩
theorem Plain_does : Does Tryz.prog G 49 [] [] fun ae _ => ae = .ret (.agg plainD.cells) := by
  refine Does.bodyA tab Tryz.func49 rfl rfl ?_
  refine AC.step tab ?_
  refine gos ?_
  intro v0
  refine gos ?_
  refine AC.step tab ?_
  refine gos ?_
  intro v1
  refine gos ?_
  refine AC.cutF tab (fun e h => e = [.ptr 0 v0 0 0, .ptr 1 v1 0 0] ++ List.replicate 12 .any ∧ h = [some ⟨v0, 23, 10, [[.str [], .str [], .str [], .str [], .str [], .str [], .str [], .str [], .str [], .str []]]⟩, some ⟨v1, 23, 10, [plainD.cells]⟩]) ?_ ?_
  · refine gos ?_
    refine AC.rounds tab 11 ?_
    refine gos ?_
    exact ⟨_, 2, fgts, rfl, rfl⟩
  rintro e h ⟨rfl, rfl⟩
  refine AC.go tab ?_
  refine gos ?_
  refine RetW.plain (by simp) ?_
  rfl
end Go.Proofs.YtpipbjfcbbdicaaGreatDoor

namespace Go.Proofs.YtpipbjfcbbdicaaGreatDoor
open Go Go.Abs
attribute [local irreducible] DrawW CallW RetW AC Does CmpW
variable {G : Globs}

def sevenL : List (List UInt8) := [[48, 75], [48, 48, 75], [48, 48, 48, 75], [48, 77], [48, 48, 77], [48, 48, 48, 77], [48, 66]]
def shortR : List TRow := [⟨3, oneT [48, 75]⟩, ⟨4, oneT [48, 48, 75]⟩, ⟨5, oneT [48, 48, 48, 75]⟩, ⟨6, oneT [48, 77]⟩, ⟨7, oneT [48, 48, 77]⟩, ⟨8, oneT [48, 48, 48, 77]⟩, ⟨9, oneT [48, 66]⟩]
def mshortR : List TRow := [⟨3, oneT [194, 164, 48, 75]⟩, ⟨4, oneT [194, 164, 48, 48, 75]⟩, ⟨5, oneT [194, 164, 48, 48, 48, 75]⟩, ⟨6, oneT [194, 164, 48, 77]⟩, ⟨7, oneT [194, 164, 48, 48, 77]⟩, ⟨8, oneT [194, 164, 48, 48, 48, 77]⟩, ⟨9, oneT [194, 164, 48, 66]⟩]
theorem shortR_snoc {i : Nat} {s : List UInt8} (h : sevenL[i]? = some s) : (shortR.take i).map encR ++ [[.int .i64 (3 + (i : Int)), txtL (oneT s)]] = (shortR.take (i + 1)).map encR := by
  match i, h with
  | 0, h => cases h; rfl
  | 1, h => cases h; rfl
  | 2, h => cases h; rfl
  | 3, h => cases h; rfl
  | 4, h => cases h; rfl
  | 5, h => cases h; rfl
  | 6, h => cases h; rfl
theorem mshortR_snoc {i : Nat} {s : List UInt8} (h : sevenL[i]? = some s) : (mshortR.take i).map encR ++ [[.int .i64 (3 + (i : Int)), txtL (oneT ([194, 164] ++ s))]] = (mshortR.take (i + 1)).map encR := by
  match i, h with
  | 0, h => cases h; rfl
  | 1, h => cases h; rfl
  | 2, h => cases h; rfl
  | 3, h => cases h; rfl
  | 4, h => cases h; rfl
  | 5, h => cases h; rfl
  | 6, h => cases h; rfl
theorem sevenL_len {i : Nat} {s : List UInt8} (h : sevenL[i]? = some s) : s.length ≤ 4 := by
  have h1 : ∀ x ∈ sevenL, x.length ≤ 4 := by decide
  exact h1 s (List.mem_of_getElem? h)
def longR : List TRow := [⟨3, twoT [48, 32, 116, 104, 111, 117, 115, 97, 110, 100] [48, 32, 116, 104, 111, 117, 115, 97, 110, 100, 115]⟩, ⟨6, twoT [48, 32, 109, 105, 108, 108, 105, 111, 110] [48, 32, 109, 105, 108, 108, 105, 111, 110, 115]⟩]
def cursB : List TCur := [⟨[67, 72, 70], [], [], [], 2, 0, 2, 5⟩, ⟨[69, 85, 82], [226, 130, 172], [226, 130, 172], twoT [101, 117, 114, 111] [101, 117, 114, 111, 115], 2, 0, 2, 0⟩,
  ⟨[74, 80, 89], [194, 165], [], oneT [121, 101, 110], 0, 0, 0, 0⟩, ⟨[85, 83, 68], [36], [36], twoT [100, 111, 108, 108, 97, 114] [100, 111, 108, 108, 97, 114, 115], 2, 0, 2, 0⟩]
def untsB : List TUnt := [⟨[100, 97, 121], twoT [123, 48, 125, 32, 100, 97, 121] [123, 48, 125, 32, 100, 97, 121, 115]⟩, ⟨[107, 109], oneT [123, 48, 125, 32, 107, 109]⟩]
def munB : List TTxt := oneT [123, 48, 125, 32, 123, 49, 125]
def befS : TSpc := ⟨[91, 94, 92, 117, 123, 50, 52, 125, 92, 117, 123, 50, 48, 97, 99, 125, 92, 117, 123, 97, 53, 125, 40, 93], [91, 48, 45, 57, 92, 117, 123, 54, 54, 48, 125, 45, 92, 117, 123, 54, 54, 57, 125, 93], [194, 160]⟩
def zeroC : List AV := [.str [], .str [], .str [], .str [], .str [], .str [], .str [], .str [], .str [], .str [], .str [], .str [], .str [], .str [], .str [], .str [], .int .i64 0, .str [], .str [], .str [], .str [], .str [], .nils, .nils, .nils, .nils, .nils, .nils, .str [], .str [], .str [], .str [], .str [], .str []]
def bsC (c22 c23 c24 c25 c26 c27 : AV) (b a : TSpc) : List AV := [.str plainD.d0, .str plainD.d1, .str plainD.d2, .str plainD.d3, .str plainD.d4, .str plainD.d5, .str plainD.d6, .str plainD.d7, .str plainD.d8, .str plainD.d9, .str [45],
  .str [43], .str [37], .str [226, 128, 176], .str [46], .str [44], .int .i64 1, .str [35, 44, 35, 35, 48, 46, 35, 35, 35], .str [35, 44, 35, 35, 48, 37], .str [194, 164, 35, 44, 35, 35, 48, 46, 48, 48],
  .str [194, 164, 35, 44, 35, 35, 48, 46, 48, 48, 59, 40, 194, 164, 35, 44, 35, 35, 48, 46, 48, 48, 41], .str [111, 110, 101, 58, 32, 105, 32, 61, 32, 49, 32, 97, 110, 100, 32, 118, 32, 61, 32, 48],
  c22, c23, c24, c25, c26, c27, .str b.cur, .str b.num, .str b.ins, .str a.cur, .str a.num, .str a.ins]
def noSpc : TSpc := ⟨[], [], []⟩
def base0 : TTab := { dg := plainD, minus := [45], plus := [43], percent := [37], permille := [226, 128, 176], point := [46], comma := [44], minGroup := 1, decimal := [35, 44, 35, 35, 48, 46, 35, 35, 35], per := [35, 44, 35, 35, 48, 37], money := [194, 164, 35, 44, 35, 35, 48, 46, 48, 48], account := [194, 164, 35, 44, 35, 35, 48, 46, 48, 48, 59, 40, 194, 164, 35, 44, 35, 35, 48, 46, 48, 48, 41], rules := [111, 110, 101, 58, 32, 105, 32, 61, 32, 49, 32, 97, 110, 100, 32, 118, 32, 61, 32, 48], short := shortR, long := longR, mshort := mshortR, curs := cursB, units := untsB, munit := munB, before := befS, after := befS }
def untP1 : List TUnt := [⟨[100, 97, 121], [⟨1, [123, 48, 125, 32, 100, 122, 105, 101, 197, 132]⟩, ⟨4, [123, 48, 125, 32, 100, 110, 105]⟩, ⟨5, [123, 48, 125, 32, 100, 110, 105, 97]⟩]⟩, ⟨[107, 109], oneT [123, 48, 125, 32, 107, 109]⟩]
def base1 : TTab := { base0 with point := [44], comma := [194, 160], minus := [226, 136, 146], minGroup := 2, money := [35, 44, 35, 35, 48, 46, 48, 48, 194, 160, 194, 164], account := [35, 44, 35, 35, 48, 46, 48, 48, 194, 160, 194, 164], rules := [111, 110, 101, 58, 32, 105, 32, 61, 32, 49, 32, 97, 110, 100, 32, 118, 32, 61, 32, 48, 59, 32, 102, 101, 119, 58, 32, 118, 32, 61, 32, 48, 32, 97, 110, 100, 32, 105, 32, 37, 32, 49, 48, 32, 61, 32, 50, 46, 46, 52, 32, 97, 110, 100, 32, 105, 32, 37, 32, 49, 48, 48, 32, 33, 61, 32, 49, 50, 46, 46, 49, 52, 59, 32, 109, 97, 110, 121, 58, 32, 118, 32, 61, 32, 48, 32, 97, 110, 100, 32, 105, 32, 33, 61, 32, 49, 32, 97, 110, 100, 32, 105, 32, 37, 32, 49, 48, 32, 61, 32, 48, 46, 46, 49, 32, 111, 114, 32, 118, 32, 61, 32, 48, 32, 97, 110, 100, 32, 105, 32, 37, 32, 49, 48, 32, 61, 32, 53, 46, 46, 57, 32, 111, 114, 32, 118, 32, 61, 32, 48, 32, 97, 110, 100, 32, 105, 32, 37, 32, 49, 48, 48, 32, 61, 32, 49, 50, 46, 46, 49, 52], units := untP1 }
def digA : TDig := ⟨[217, 160], [217, 161], [217, 162], [217, 163], [217, 164], [217, 165], [217, 166], [217, 167], [217, 168], [217, 169]⟩
def short2 : List TRow := [⟨0, oneT [48]⟩, ⟨4, oneT [48, 87]⟩, ⟨8, oneT [48, 89]⟩]
def base2 : TTab := { base0 with dg := digA, point := [217, 171], comma := [217, 172], decimal := [35, 44, 35, 35, 44, 35, 35, 48, 46, 35, 35, 35], per := [37, 35, 44, 35, 35, 48], money := [35, 44, 35, 35, 48, 46, 48, 48, 194, 164, 194, 164, 194, 164, 59, 194, 164, 45, 35, 44, 35, 35, 48, 46, 48, 48], rules := [122, 101, 114, 111, 58, 32, 110, 32, 61, 32, 48, 59, 32, 111, 110, 101, 58, 32, 110, 32, 61, 32, 49, 59, 32, 116, 119, 111, 58, 32, 110, 32, 61, 32, 50, 59, 32, 102, 101, 119, 58, 32, 110, 32, 37, 32, 49, 48, 48, 32, 61, 32, 51, 46, 46, 49, 48, 59, 32, 109, 97, 110, 121, 58, 32, 110, 32, 37, 32, 49, 48, 48, 32, 61, 32, 49, 49, 46, 46, 57, 57], short := short2 }
def baseK (n : Int) : Int := (IntKind.u64.wrap n).tmod 3
def baseF (n : Int) : TTab := if baseK n = 1 then base1 else if baseK n = 2 then base2 else base0
theorem baseK_three (n : Int) : baseK n = 0 ∨ baseK n = 1 ∨ baseK n = 2 := by
  have h : 0 ≤ IntKind.u64.wrap n := by
    unfold IntKind.wrap
    simp only [IntKind.bits, IntKind.signed]
    simp
    omega
  unfold baseK
  rw [Int.tmod_eq_emod_of_nonneg h]
  omega
theorem Base_does (n : Int) : Does Tryz.prog G 11 [.int .i64 n] [] fun ae _ => ae = .ret (.agg (tabC (baseF n))) := by
  refine Does.bodyA tab Tryz.func11 rfl rfl ?_
  refine AC.step tab ?_
  refine gos ?_
  intro v0
  refine gos ?_
  refine AC.cutF tab (fun e h => ∃ v1, e = [.int .i64 n, .any, .ptr 0 v0 0 0, .ptr 1 v1 0 0] ++ List.replicate 114 .any ∧ h = [some ⟨v0, 31, 34, [zeroC]⟩, some ⟨v1, 31, 34, [bsC .nils .nils .nils .nils .nils .nils noSpc noSpc]⟩]) ?_ ?_
  · refine gos ?_
    refine CallW.pure Plain_does rfl rfl ?_
    refine gos ?_
    intro v1
    refine gos ?_
    exact ⟨_, 2, fgts, v1, rfl, rfl⟩
  rintro e h ⟨v1, rfl, rfl⟩
  refine AC.ownC 1 22 43 2 (cs := bsC .nils .nils .nils .nils .nils .nils noSpc noSpc) rfl rfl rfl (by omega) fun va => ?_
  refine AC.ownC 1 24 43 2 (cs := bsC (.sl 2 va) .nils .nils .nils .nils .nils noSpc noSpc) rfl rfl rfl (by omega) fun vb => ?_
  refine AC.cutA (fun e h => ∃ va vb L, L = 7 ∧ e = [.int .i64 n, .any, .ptr 0 v0 0 0, .ptr 1 v1 0 0] ++ List.replicate 114 .any ∧ h = [some ⟨v0, 31, 34, [zeroC]⟩, some ⟨v1, 31, 34, [bsC (.sl 2 va) .nils (.sl 3 vb) .nils .nils .nils noSpc noSpc]⟩, some ⟨va, 43, 2, (shortR.take L).map encR⟩, some ⟨vb, 43, 2, (mshortR.take L).map encR⟩]) ?_ ?_
  · refine AC.step tab ?_
    (repeat (first | refine gof ?_ | refine fun (vv : Nat) => ?_))
    refine AC.wk (Wk.row (k := 9) (i := 4) (o := ⟨vv, 9, 1, sevenL.map encS1⟩) rfl rfl rfl rfl) ?_
    refine AC.blk ?_
    refine AC.loopA (fun f e h => ∃ (i : Nat) (va vb : Nat), f + i = 8 ∧ i ≤ 7 ∧ e = [.int .i64 n, .any, .ptr 0 v0 0 0, .ptr 1 v1 0 0, .any, .any, .any, .any, .any, .fsl (sevenL.map encS1), .int .i64 7, .int .i64 i] ++ List.replicate 106 .any ∧
       h = [some ⟨v0, 31, 34, [zeroC]⟩, some ⟨v1, 31, 34, [bsC (.sl 2 va) .nils (.sl 3 vb) .nils .nils .nils noSpc noSpc]⟩, some ⟨va, 43, 2, (shortR.take i).map encR⟩, some ⟨vb, 43, 2, (mshortR.take i).map encR⟩, none])
      8 ⟨_, fgts, 0, va, vb, by omega, by omega, rfl, rfl⟩ ?_
    rintro f e h ⟨i, va, vb, hf, hi, rfl, rfl⟩
    refine AC.step tab ?_
    refine gos ?_
    by_cases h7 : i < 7
    case neg =>
      refine CmpW.N ?_
      refine gos ?_
      refine AC.step tab ?_
      refine gos ?_
      obtain rfl : i = 7 := by omega
      exact ⟨_, 4, fgts, va, vb, 7, rfl, rfl, rfl⟩
    obtain ⟨s, hs⟩ : ∃ s, sevenL[i]? = some s := ⟨_, List.getElem?_eq_getElem (by simp [sevenL]; omega)⟩
    refine CmpW.T ?_
    refine gos ?_
    refine AC.step tab ?_
    refine gos ?_
    refine AC.cutA (fun e h => ∃ vc vd, e = [.int .i64 n, .any, .ptr 0 v0 0 0, .ptr 1 v1 0 0, .any, .any, .any, .any, .any, .fsl (sevenL.map encS1), .int .i64 7, .int .i64 i] ++ List.replicate 106 .any ∧
       h = [some ⟨v0, 31, 34, [zeroC]⟩, some ⟨v1, 31, 34, [bsC (.sl 2 vc) .nils (.sl 3 vd) .nils .nils .nils noSpc noSpc]⟩, some ⟨vc, 43, 2, (shortR.take (i + 1)).map encR⟩, some ⟨vd, 43, 2, (mshortR.take (i + 1)).map encR⟩, none]) ?_ ?_
    · refine AC.blk ?_
      refine AC.step tab ?_
      refine gos ?_
      have ls : (sevenL.map encS1).length = 7 := rfl
      refine And.intro (encS1_one sevenL) (And.intro (by omega) ⟨encS1 s, map_get hs, ?_⟩)
      refine gos ?_
      refine AC.cutF tab (fun e h => ∃ vc, e = [.int .i64 n, .any, .ptr 0 v0 0 0, .ptr 1 v1 0 0, .int .i64 i, .str s, .any, .any, .any, .fsl (sevenL.map encS1), .int .i64 7, .int .i64 i] ++ List.replicate 106 .any ∧
         h = [some ⟨v0, 31, 34, [zeroC]⟩, some ⟨v1, 31, 34, [bsC (.sl 2 vc) .nils (.sl 3 vb) .nils .nils .nils noSpc noSpc]⟩, some ⟨vc, 43, 2, (shortR.take (i + 1)).map encR⟩, some ⟨vb, 43, 2, (mshortR.take i).map encR⟩, none]) ?_ ?_
      · refine gos ?_
        refine DrawW.P (.take 0 (.take 2 (.take 3 (.take 4 (.fork (.cons 1 (.take 5 (.take 6 (.take 7 (.take 8 (.take 9 (.take 10 .done)))))) (.cons 5 (.take 6 (.fork (.cons 1 (.take 7 (.take 8 (.take 9 (.take 10 .done)))) (.cons 7 (.take 1 (.take 8 (.take 9 (.take 10 .done)))) .nil)))) .nil))))))) ?_
        (repeat' (first | exact trivial | refine CallW.pure (One_does s) rfl rfl ?_ | refine gof ?_ | refine fun (vv : Nat) => ?_ | refine And.intro ?_ ?_))
        all_goals
          refine gos ?_
          refine ⟨_, 5, fgts, vv, rfl, ?_⟩
          rw [← shortR_snoc hs]
          rfl
      rintro e h ⟨vc, rfl, rfl⟩
      refine AC.go tab ?_
      refine gos ?_
      have hb : ((([194, 164] : List UInt8).length + s.length : Nat) : Int) ≤ 9223372036854775807 := by have := sevenL_len hs; simp; omega
      refine DrawW.P (.take 0 (.take 2 (.take 3 (.take 4 (.take 5 (.fork (.cons 1 (.take 6 (.take 7 (.take 8 (.take 9 (.take 10 (.take 11 .done)))))) (.cons 6 (.take 7 (.fork (.cons 1 (.take 8 (.take 9 (.take 10 (.take 11 .done)))) (.cons 8 (.take 1 (.take 9 (.take 10 (.take 11 .done)))) .nil)))) .nil)))))))) ?_
      (repeat' (first | exact trivial | exact hb | refine CallW.pure (One_does ([194, 164] ++ s)) rfl rfl ?_ | refine gof ?_ | refine fun (vv : Nat) => ?_ | refine And.intro ?_ ?_))
      all_goals
        refine gos ?_
        refine ⟨_, 5, fgts, vc, vv, rfl, ?_⟩
        rw [← mshortR_snoc hs]
        rfl
    rintro e h ⟨vc, vd, rfl, rfl⟩
    refine AC.go tab ?_
    refine gos ?_
    exact ⟨f - 1, _, 5, by omega, fgts, i + 1, vc, vd, by omega, by omega, rfl, rfl⟩
  rintro e h ⟨va, vb, L, rfl, rfl, rfl⟩
  refine AC.rowC 2 1 0 22 rfl rfl (by omega) rfl rfl rfl rfl ?_
  refine AC.rowC 3 1 0 24 rfl rfl (by omega) rfl rfl rfl rfl ?_
  refine AC.cutF tab (fun e h => ∃ w, e = [.int .i64 n, .any, .ptr 0 v0 0 0, .ptr 1 v1 0 0] ++ List.replicate 114 .any ∧
    h = [some ⟨v0, 31, 34, [zeroC]⟩, some ⟨v1, 31, 34, [bsC (rowL shortR) (.sl 4 w) (rowL mshortR) .nils .nils .nils noSpc noSpc]⟩, none, none, some ⟨w, 43, 2, longR.map encR⟩]) ?_ ?_
  · refine gos ?_
    refine CallW.pure (Two_does _ _) rfl rfl ?_
    refine gos ?_
    refine CallW.pure (Two_does _ _) rfl rfl ?_
    (repeat (first | refine gof ?_ | refine fun (vv : Nat) => ?_))
    exact ⟨_, 5, fgts, vv, rfl, rfl⟩
  rintro e h ⟨w8, rfl, rfl⟩
  refine AC.rowC 4 1 0 23 rfl rfl (by omega) rfl rfl rfl rfl ?_
  refine AC.cutF tab (fun e h => ∃ w, e = [.int .i64 n, .any, .ptr 0 v0 0 0, .ptr 1 v1 0 0] ++ List.replicate 114 .any ∧
    h = [some ⟨v0, 31, 34, [zeroC]⟩, some ⟨v1, 31, 34, [bsC (rowL shortR) (rowL longR) (rowL mshortR) (.sl 5 w) .nils .nils noSpc noSpc]⟩, none, none, none,
      some ⟨w, 46, 8, [[.str [67, 72, 70], .str [], .str [], .nils, .int .i64 2, .int .i64 0, .int .i64 2, .int .i64 5]] ++ (cursB.drop 1).map encCu⟩]) ?_ ?_
  · refine gos ?_
    refine CallW.pure (Two_does _ _) rfl rfl ?_
    refine gos ?_
    refine CallW.pure (One_does _) rfl rfl ?_
    refine gos ?_
    refine CallW.pure (Two_does _ _) rfl rfl ?_
    (repeat (first | refine gof ?_ | refine fun (vv : Nat) => ?_))
    exact ⟨_, 6, fgts, vv, rfl, rfl⟩
  rintro e h ⟨w9, rfl, rfl⟩
  refine AC.nilC 5 0 3 rfl rfl rfl ?_
  refine AC.rowC 5 1 0 25 rfl rfl (by omega) rfl rfl rfl rfl ?_
  refine AC.cutF tab (fun e h => ∃ w, e = [.int .i64 n, .any, .ptr 0 v0 0 0, .ptr 1 v1 0 0] ++ List.replicate 114 .any ∧
    h = [some ⟨v0, 31, 34, [zeroC]⟩, some ⟨v1, 31, 34, [bsC (rowL shortR) (rowL longR) (rowL mshortR) (curL cursB) (.sl 6 w) .nils noSpc noSpc]⟩, none, none, none, none,
      some ⟨w, 48, 2, untsB.map encU⟩]) ?_ ?_
  · refine gos ?_
    refine CallW.pure (Two_does _ _) rfl rfl ?_
    refine gos ?_
    refine CallW.pure (One_does _) rfl rfl ?_
    (repeat (first | refine gof ?_ | refine fun (vv : Nat) => ?_))
    exact ⟨_, 7, fgts, vv, rfl, rfl⟩
  rintro e h ⟨w, rfl, rfl⟩
  refine AC.step tab ?_
  refine gos ?_
  refine CallW.pure (One_does _) rfl rfl ?_
  refine gos ?_
  refine AC.step tab ?_
  refine gos ?_
  refine AC.cutF tab (fun e h => e = [.int .i64 n, .any, .ptr 0 v0 0 0, .ptr 1 v1 0 0] ++ List.replicate 114 .any ∧
    h = [some ⟨v0, 31, 34, [zeroC]⟩, some ⟨v1, 31, 34, [bsC (rowL shortR) (rowL longR) (rowL mshortR) (curL cursB) (.sl 6 w) (txtL munB) befS befS]⟩, none, none, none, none,
      some ⟨w, 48, 2, untsB.map encU⟩]) ?_ ?_
  · refine gos ?_
    exact ⟨_, 7, fgts, rfl, rfl⟩
  rintro e h ⟨rfl, rfl⟩
  have hF : ∀ t, (if baseK n = 1 then base1 else if baseK n = 2 then base2 else base0) = t → baseF n = t := fun t h => h
  rcases baseK_three n with hk | hk | hk <;> rw [hk] at hF
  · rw [hF base0 rfl]
    refine AC.cutF tab (fun e h => e = [.int .i64 n, .any, .ptr 0 v0 0 0, .ptr 1 v1 0 0] ++ List.replicate 114 .any ∧
      h = [some ⟨v0, 31, 34, [zeroC]⟩, some ⟨v1, 31, 34, [bsC (rowL shortR) (rowL longR) (rowL mshortR) (curL cursB) (.sl 6 w) (txtL munB) befS befS]⟩, none, none, none, none,
      some ⟨w, 48, 2, untsB.map encU⟩]) ?_ ?_
    · refine gos ?_
      refine And.intro (by decide) ⟨0, hk, ?_⟩
      refine gos ?_
      exact ⟨_, 7, fgts, rfl, rfl⟩
    rintro e h ⟨rfl, rfl⟩
    refine AC.rowC 6 1 0 26 rfl rfl (by omega) rfl rfl rfl rfl ?_
    refine AC.go tab ?_
    refine gos ?_
    refine RetW.plain (by simp) ?_
    rfl
  · rw [hF base1 rfl]
    refine AC.cutF tab (fun e h => ∃ wt, e = [.int .i64 n, .any, .ptr 0 v0 0 0, .ptr 1 v1 0 0] ++ List.replicate 114 .any ∧
      h = [some ⟨v0, 31, 34, [zeroC]⟩, some ⟨v1, 31, 34, [(tabC base1).set 26 (.sl 6 w)]⟩, none, none, none, none,
      some ⟨w, 48, 2, [[.str [100, 97, 121], .sl 7 wt], encU ⟨[107, 109], oneT [123, 48, 125, 32, 107, 109]⟩]⟩, some ⟨wt, 87, 2, (untP1.flatMap fun u => u.texts.take 3).take 3 |>.map encT⟩]) ?_ ?_
    · refine gos ?_
      refine And.intro (by decide) ⟨1, hk, ?_⟩
      (repeat (first | refine gof ?_ | refine fun (vv : Nat) => ?_))
      refine And.intro (And.intro (of_decide_eq_true rfl) (of_decide_eq_true rfl)) ?_
      refine gos ?_
      exact ⟨_, 8, fgts, vv, rfl, rfl⟩
    rintro e h ⟨wt, rfl, rfl⟩
    refine AC.rowC 7 6 0 1 rfl rfl (by omega) rfl rfl rfl rfl ?_
    refine AC.rowC 6 1 0 26 rfl rfl (by omega) rfl rfl rfl rfl ?_
    refine AC.go tab ?_
    refine gos ?_
    refine RetW.plain (by simp) ?_
    rfl
  · rw [hF base2 rfl]
    refine AC.cutF tab (fun e h => ∃ x0 x1 x2 x3 x4 x5 x6 x7 x8 x9 ws, e = [.int .i64 n, .any, .ptr 0 v0 0 0, .ptr 1 v1 0 0] ++ List.replicate 114 .any ∧
      h = [some ⟨v0, 31, 34, [zeroC]⟩, some ⟨v1, 31, 34, [((tabC base2).set 26 (.sl 6 w)).set 22 (.sl 17 ws)]⟩, none, none, none, none,
      some ⟨w, 48, 2, untsB.map encU⟩, x0, x1, x2, x3, x4, x5, x6, x7, x8, x9, some ⟨ws, 43, 2, short2.map encR⟩]) ?_ ?_
    · refine gos ?_
      refine And.intro (by decide) ⟨2, hk, ?_⟩
      refine gos ?_
      refine AC.rounds tab 11 ?_
      (repeat (first | refine gof ?_ | refine fun (vv : Nat) => ?_))
      refine ⟨[217, 160], rfl, ?_⟩
      (repeat (first | refine gof ?_ | refine fun (vv : Nat) => ?_))
      refine ⟨[217, 161], rfl, ?_⟩
      (repeat (first | refine gof ?_ | refine fun (vv : Nat) => ?_))
      refine ⟨[217, 162], rfl, ?_⟩
      (repeat (first | refine gof ?_ | refine fun (vv : Nat) => ?_))
      refine ⟨[217, 163], rfl, ?_⟩
      (repeat (first | refine gof ?_ | refine fun (vv : Nat) => ?_))
      refine ⟨[217, 164], rfl, ?_⟩
      (repeat (first | refine gof ?_ | refine fun (vv : Nat) => ?_))
      refine ⟨[217, 165], rfl, ?_⟩
      (repeat (first | refine gof ?_ | refine fun (vv : Nat) => ?_))
      refine ⟨[217, 166], rfl, ?_⟩
      (repeat (first | refine gof ?_ | refine fun (vv : Nat) => ?_))
      refine ⟨[217, 167], rfl, ?_⟩
      (repeat (first | refine gof ?_ | refine fun (vv : Nat) => ?_))
      refine ⟨[217, 168], rfl, ?_⟩
      (repeat (first | refine gof ?_ | refine fun (vv : Nat) => ?_))
      refine ⟨[217, 169], rfl, ?_⟩
      (repeat (first | refine gof ?_ | refine fun (vv : Nat) => ?_))
      refine CallW.pure (One_does _) rfl rfl ?_
      refine gos ?_
      refine CallW.pure (One_does _) rfl rfl ?_
      refine gos ?_
      refine CallW.pure (One_does _) rfl rfl ?_
      (repeat (first | refine gof ?_ | refine fun (vv : Nat) => ?_))
      exact ⟨_, 18, fgts, _, _, _, _, _, _, _, _, _, _, vv, rfl, rfl⟩
    rintro e h ⟨x0, x1, x2, x3, x4, x5, x6, x7, x8, x9, ws, rfl, rfl⟩
    refine AC.rowC 6 1 0 26 rfl rfl (by omega) rfl rfl rfl rfl ?_
    refine AC.rowC 17 1 0 22 rfl rfl (by omega) rfl rfl rfl rfl ?_
    refine AC.go tab ?_
    refine gos ?_
    refine RetW.plain (by simp) ?_
    rfl
end Go.Proofs.YtpipbjfcbbdicaaGreatDoor

namespace Go.Proofs.YtpipbjfcbbdicaaGreatDoor

theorem few_lt {s : List UInt8} (h : few s = true) : s.length < 50000 := by
  have := of_decide_eq_true h; omega
theorem ptxt_fits {l : List TTxt} (h : ptxtB l = true) : l.length ≤ 20 ∧ ∀ x ∈ l, x.text.length ≤ 200 := by
  simp only [ptxtB, Bool.and_eq_true, List.all_eq_true, ptP, decide_eq_true_eq] at h
  exact ⟨h.2, fun x hx => (h.1 x hx).2⟩
theorem prow_fits {l : List TRow} (h : prowB l = true) : l.length < 50000 ∧ ∀ r ∈ l, r.fits := by
  simp only [prowB, Bool.and_eq_true, List.all_eq_true, prP, decide_eq_true_eq] at h
  refine ⟨by omega, fun r hr => ?_⟩
  obtain ⟨a, b⟩ := ptxt_fits (h.1 r hr).2
  exact ⟨by omega, fun x hx => by have := b x hx; omega⟩
theorem ptxt_txtFits {l : List TTxt} (h : ptxtB l = true) : txtFits l := by
  obtain ⟨a, b⟩ := ptxt_fits h
  exact ⟨by omega, fun x hx => by have := b x hx; omega⟩
theorem plain_fits {t : TTab} (h : plainB t = true) : t.fits := by
  simp only [plainB, Bool.and_eq_true, List.all_eq_true, pmB, decide_eq_true_eq] at h
  obtain ⟨hD, hS, ⟨_, hR, hSh, hLo, hMs, hMu, hC, hU⟩, hCu, hUn⟩ := h
  have st : ∀ x ∈ t.strs, x.length < 50000 := fun x hx => few_lt (hS x hx)
  refine ⟨fun x hx => few_lt (hD x hx), st _ (by simp [TTab.strs]), st _ (by simp [TTab.strs]), st _ (by simp [TTab.strs]), st _ (by simp [TTab.strs]), st _ (by simp [TTab.strs]), st _ (by simp [TTab.strs]), st _ (by simp [TTab.strs]), st _ (by simp [TTab.strs]),
    st _ (by simp [TTab.strs]), st _ (by simp [TTab.strs]), by omega, prow_fits hSh, prow_fits hLo, prow_fits hMs, ⟨by omega, fun c hc => ?_⟩, ⟨by omega, fun u hu => ?_⟩, ptxt_txtFits hMu, ?_, ?_⟩
  · have := hCu c hc
    simp only [pcP, Bool.and_eq_true, decide_eq_true_eq] at this
    exact ⟨by omega, by omega, by omega, ptxt_txtFits this.2.1⟩
  · have := hUn u hu
    simp only [puP, Bool.and_eq_true] at this
    exact ⟨few_lt this.1, ptxt_txtFits this.2⟩
  · exact ⟨st _ (by simp [TTab.strs]), st _ (by simp [TTab.strs]), st _ (by simp [TTab.strs])⟩
  · exact ⟨st _ (by simp [TTab.strs]), st _ (by simp [TTab.strs]), st _ (by simp [TTab.strs])⟩
end Go.Proofs.YtpipbjfcbbdicaaGreatDoor

namespace Go.Proofs.YtpipbjfcbbdicaaGreatDoor
open Go Go.Abs
attribute [local irreducible] DrawW CallW RetW AC Does CmpW

/-- What a class's text gives: the class, and the error. -/
def clsA (s : List UInt8) : AV × Int := match clsF s with
  | .error _ => (.nils, 1)
  | .ok c => (.fsl (rgEs c), 0)
theorem spaced_does (m : Int) (x : TSpc) (hx : x.fits) : Does Tryz.prog (GL m) 48 [.agg x.cells] [] fun ae _ => ae = .ret (.bool (spcB x)) := by
  obtain ⟨xc, xn, xi⟩ := x
  obtain ⟨h1, h2, h3⟩ := hx
  simp only at h1 h2 h3
  have dC := ClsParse_does m xc (by omega)
  have dN := ClsParse_does m xn (by omega)
  refine Does.bodyA tab Tryz.func48 rfl rfl ?_
  refine AC.step tab ?_
  refine gos ?_
  intro v1
  refine gos ?_
  refine AC.cutF tab (fun e h => e = [.any, .ptr 0 v1 0 0, .any, (clsA xc).1, .int .i64 (clsA xc).2] ++ List.replicate 44 .any ∧ h = [some ⟨v1, 29, 3, [[.str xc, .str xn, .str xi]]⟩]) ?_ ?_
  · cases hE : clsF xc with
    | error p =>
      rw [hE] at dC
      have hA : clsA xc = (.nils, 1) := by simp [clsA, hE]
      rw [hA]
      refine gos ?_
      refine CallW.pure dC rfl rfl ?_
      refine gos ?_
      exact ⟨_, 1, fgts, rfl, rfl⟩
    | ok c =>
      rw [hE] at dC
      have hA : clsA xc = (.fsl (rgEs c), 0) := by simp [clsA, hE]
      rw [hA]
      refine gos ?_
      refine CallW.pure dC rfl rfl ?_
      refine gos ?_
      exact ⟨_, 1, fgts, rfl, rfl⟩
  rintro e h ⟨rfl, rfl⟩
  refine AC.cutF tab (fun e h => e = [.any, .ptr 0 v1 0 0, .any, (clsA xc).1, .int .i64 (clsA xc).2, .any, (clsA xn).1, .int .i64 (clsA xn).2] ++ List.replicate 41 .any ∧ h = [some ⟨v1, 29, 3, [[.str xc, .str xn, .str xi]]⟩]) ?_ ?_
  · cases hE : clsF xn with
    | error p =>
      rw [hE] at dN
      have hA : clsA xn = (.nils, 1) := by simp [clsA, hE]
      rw [hA]
      refine gos ?_
      refine CallW.pure dN rfl rfl ?_
      refine gos ?_
      exact ⟨_, 1, fgts, rfl, rfl⟩
    | ok c =>
      rw [hE] at dN
      have hA : clsA xn = (.fsl (rgEs c), 0) := by simp [clsA, hE]
      rw [hA]
      refine gos ?_
      refine CallW.pure dN rfl rfl ?_
      refine gos ?_
      exact ⟨_, 1, fgts, rfl, rfl⟩
  rintro e h ⟨rfl, rfl⟩
  refine AC.go tab ?_
  cases hE : clsF xc with
  | error p =>
    rw [show clsA xc = (.nils, 1) by simp [clsA, hE]]
    refine gos ?_
    refine RetW.plain (by simp) ?_
    simp [spcB, spcOk, hE]
  | ok c =>
  rw [show clsA xc = (.fsl (rgEs c), 0) by simp [clsA, hE]]
  cases hE2 : clsF xn with
  | error p =>
    rw [show clsA xn = (.nils, 1) by simp [clsA, hE2]]
    refine gos ?_
    refine RetW.plain (by simp) ?_
    simp [spcB, spcOk, hE2]
  | ok d =>
  rw [show clsA xn = (.fsl (rgEs d), 0) by simp [clsA, hE2]]
  refine gos ?_
  rw [rgEs_len]
  by_cases h60 : c.length ≤ 60
  case neg =>
    refine CmpW.N ?_
    refine gos ?_
    refine RetW.plain (by simp) ?_
    simp [spcB, spcOk, hE, h60]
  refine CmpW.T ?_
  refine gos ?_
  rw [rgEs_len]
  by_cases h61 : d.length ≤ 60
  case neg =>
    refine CmpW.N ?_
    refine gos ?_
    refine RetW.plain (by simp) ?_
    simp [spcB, spcOk, hE2, h61]
  refine CmpW.T ?_
  cases xi with
  | nil =>
    refine gos ?_
    refine RetW.plain (by simp) ?_
    simp [spcB, spcOk, hE, h60, hE2, h61, maybeF]
  | cons b r =>
    refine gos ?_
    refine CallW.pure (lname_does m (b :: r) (by omega)) rfl rfl ?_
    refine gos ?_
    refine RetW.plain (by simp) ?_
    simp [spcB, spcOk, hE, h60, hE2, h61, maybeF]
end Go.Proofs.YtpipbjfcbbdicaaGreatDoor

namespace Go.Proofs.YtpipbjfcbbdicaaGreatDoor
open Go Go.Abs
attribute [local irreducible] DrawW CallW RetW AC Does CmpW
variable {G : Globs}

theorem has_does (x : List Piece × List Piece) (h1 : x.1.length < 100000) (h2 : x.2.length < 100000) (k : Int) : Does Tryz.prog G 97 [encS x, .int .i64 k] [] fun ae _ => ae = .ret (.int .i64 (cnt2 k x)) := by
  obtain ⟨p, q⟩ := x
  simp only at h1 h2
  obtain ⟨ps, hps⟩ : ∃ ps, ps = p ++ q := ⟨_, rfl⟩
  have hc : cnt2 k (p, q) = cntF k ps := by rw [hps, cntF_append]; rfl
  have hl : ps.length < 200000 := by rw [hps, List.length_append]; omega
  have c1 := cntF_le k ps
  rw [hc]
  refine Does.bodyA tab Tryz.func97 rfl rfl ?_
  refine AC.step tab ?_
  refine gos ?_
  intro v1
  refine gos ?_
  refine AC.wk (Wk.ptr (k := 2) (i := 0) rfl rfl rfl rfl rfl) ?_
  refine AC.step tab ?_
  refine gos ?_
  refine AC.cutA (fun e h => e = [.any, .any, .any, .any, .any, .int .i64 (cntF k ps)] ++ List.replicate 22 .any ∧ h = []) ?_ ?_
  · refine AC.cutF tab (fun e h => ∃ (vr L : Nat) (E : List (List AV)), L = ps.length ∧ E = ps.map encP ∧ e = [.any, .int .i64 k, .any, .any, .any, .int .i64 0, .any, .any, .any, .any, .any, .any, .any, .any, .sl 1 vr, .int .i64 L, .int .i64 0] ++ List.replicate 11 .any ∧ h = [none, some ⟨vr, 190, 3, E⟩]) ?_ ?_
    · refine gos ?_
      refine DrawW.P (.take 1 (.take 4 (.take 8 (.fork (.cons 0 (.take 2 (.fork (.cons 3 (.take 5 (.take 6 (.take 7 .done))) (.cons 5 (.take 3 (.take 6 (.take 7 .done))) .nil)))) (.cons 2 (.fork (.cons 0 (.fork (.cons 3 (.take 5 (.take 6 (.take 7 .done))) (.cons 5 (.take 3 (.take 6 (.take 7 .done))) .nil))) (.cons 5 (.take 0 (.take 3 (.take 6 (.take 7 .done)))) .nil))) (.cons 5 (.fork (.cons 0 (.take 2 (.take 3 (.take 6 (.take 7 .done)))) (.cons 2 (.take 0 (.take 3 (.take 6 (.take 7 .done)))) .nil))) .nil))))))) ?_
      (repeat' (first | exact trivial | exact encP_three _ | exact encP_ones _ | refine gof ?_ | refine fun (vv : Nat) => ?_ | refine And.intro ?_ ?_))
      all_goals
        subst hps
        refine ⟨_, 2, fgts, vv, _, _, ?_, ?_, rfl, rfl⟩ <;> simp
    rintro e h ⟨vr, L, E, rfl, rfl, rfl, rfl⟩
    refine AC.wk (Wk.row (k := 14) (i := 1) (o := ⟨vr, 190, 3, ps.map encP⟩) rfl rfl rfl (encs_closed ps)) ?_
    refine AC.go tab ?_
    refine gos ?_
    refine AC.loopC tab (fun f e h => ∃ (i n : Nat), f + i = ps.length + 1 ∧ i ≤ ps.length ∧ n + cntF k (ps.drop i) = cntF k ps ∧ n ≤ i ∧
        e = [.any, .int .i64 k, .any, .any, .any, .int .i64 n, .any, .any, .any, .any, .any, .any, .any, .any, .fsl (ps.map encP), .int .i64 ps.length, .int .i64 i] ++ List.replicate 11 .any ∧ h = [none, none])
      (ps.length + 1) ⟨_, fgts, 0, 0, by omega, by omega, by simp, by omega, rfl, rfl⟩ ?_
    rintro f e h ⟨i, n, hf, hi, hn, hni, rfl, rfl⟩
    refine gos ?_
    by_cases hlt : i < ps.length
    · obtain ⟨x, hx⟩ : ∃ x, ps[i]? = some x := ⟨_, List.getElem?_eq_getElem hlt⟩
      rw [drop_cons' hx] at hn
      simp only [cntF] at hn
      refine CmpW.T ?_
      refine gos ?_
      refine And.intro (encP_three ps) (And.intro (by simp) ⟨encP x, encP_get hx, ?_⟩)
      (repeat (first | refine gof ?_ | refine fun (vv : Nat) => ?_))
      by_cases hk : x.kind = k
      · rw [if_pos hk] at hn
        refine CmpW.t (by simpa using hk) ?_
        (repeat (first | refine gof ?_ | refine fun (vv : Nat) => ?_))
        exact ⟨f - 1, _, 2, by omega, fgts, i + 1, n + 1, by omega, by omega, by omega, by omega, rfl, rfl⟩
      · rw [if_neg hk] at hn
        refine CmpW.f (by simpa using hk) ?_
        (repeat (first | refine gof ?_ | refine fun (vv : Nat) => ?_))
        exact ⟨f - 1, _, 2, by omega, fgts, i + 1, n, by omega, by omega, by omega, by omega, rfl, rfl⟩
    · refine CmpW.N ?_
      rw [List.drop_of_length_le (by omega)] at hn
      simp only [cntF, Nat.add_zero] at hn
      subst hn
      refine gos ?_
      exact ⟨_, 0, fgts, rfl, rfl⟩
  rintro e h ⟨rfl, rfl⟩
  refine AC.go tab ?_
  refine gos ?_
  refine RetW.plain (by simp) ?_
  rfl
theorem okS_minus (cur per : Int) (p q : List Piece) : okS cur per (⟨1, [], 0⟩ :: p, q) = okS cur per (p, q) := by
  simp [okS, cnt2, cntF]
theorem sided_does (v : PatV) (hv : v.small) (cur per : Int) : Does Tryz.prog G 75 [encV v, .int .i64 cur, .int .i64 per] [] fun ae _ => ae = .ret (.bool (sdsF v cur per)) := by
  obtain ⟨p, q, p', q', two, N⟩ := v
  obtain ⟨h1, h2, h3, h4⟩ := hv
  simp only at h1 h2 h3 h4
  obtain ⟨X, hX⟩ : ∃ X, X = (p, q) := ⟨_, rfl⟩
  obtain ⟨Y, hY⟩ : ∃ Y, Y = if two then (p', q') else (p, q) := ⟨_, rfl⟩
  have hS : sdsF ⟨p, q, p', q', two, N⟩ cur per = (okS cur per X && okS cur per Y) := by
    rw [hX, hY]
    unfold sdsF sidesF
    cases two
    · simp only [Bool.false_eq_true, if_false, if_true, okS_minus]
    · simp only [if_true, Bool.false_eq_true, if_false]
  have sX : X.1.length < 100000 ∧ X.2.length < 100000 := by rw [hX]; exact ⟨h1, h2⟩
  have sY : Y.1.length < 100000 ∧ Y.2.length < 100000 := by
    rw [hY]; split
    · exact ⟨h3, h4⟩
    · exact ⟨h1, h2⟩
  rw [hS]
  clear hS h1 h2 h3 h4
  obtain ⟨PC, hPC⟩ : ∃ PC, PC = patCells (affV ⟨p, q, p', q', two, N⟩) two N := ⟨_, rfl⟩
  refine Does.bodyA tab Tryz.func75 rfl rfl ?_
  cases two
  all_goals
    refine AC.step tab ?_
    refine gos ?_
    intro v1
    refine gos ?_
    refine AC.wk (Wk.ptr (k := 3) (i := 0) rfl rfl rfl rfl rfl) ?_
    refine AC.step tab ?_
    refine gos ?_
    intro v2
    refine gos ?_
    refine AC.cutF tab (fun e h => e = [.any, .int .i64 cur, .int .i64 per, .fptr PC, .any, .any, .any, .ptr 1 v2 0 0] ++ List.replicate 34 .any ∧ h = [none, some ⟨v2, 105, 2, [[encL Y.1, encL Y.2]]⟩]) ?_ ?_
    · subst hPC
      subst hX
      subst hY
      refine gos ?_
      exact ⟨_, 2, fgts, rfl, rfl⟩
    rintro e h ⟨rfl, rfl⟩
    refine AC.cutF tab (fun e h => okS cur per X = true ∧ okS cur per Y = true ∧ e = List.replicate 42 .any ∧ h = []) ?_ ?_
    · have hp : encL X.1 = encL p ∧ encL X.2 = encL q := by rw [hX]; exact ⟨rfl, rfl⟩
      clear hX hY
      subst hPC
      (repeat (first | refine gof ?_ | refine fun (vv : Nat) => ?_))
      refine AC.rounds tab 3 ?_
      simp only [show ∀ v : PatV, (affV v).a = encL v.pre from fun _ => rfl, show ∀ v : PatV, (affV v).b = encL v.suf from fun _ => rfl, ← hp.1, ← hp.2]
      refine gos ?_
      refine And.intro (And.intro (of_decide_eq_true rfl) (of_decide_eq_true rfl)) ?_
      (repeat (first | refine gof ?_ | refine fun (vv : Nat) => ?_))
      refine CallW.pure (has_does X sX.1 sX.2 5) rfl rfl ?_
      refine gos ?_
      by_cases c5 : (cnt2 5 X : Int) = cur
      case neg =>
        refine CmpW.t (by simpa using c5) ?_
        refine gos ?_
        refine RetW.plain (by simp) ?_
        rw [show okS cur per X = false by simp_all [okS]]
        rfl
      refine CmpW.f (by simpa using c5) ?_
      refine gos ?_
      refine CallW.pure (has_does X sX.1 sX.2 3) rfl rfl ?_
      refine gos ?_
      by_cases c3 : (cnt2 3 X : Int) = per
      case neg =>
        refine CmpW.t (by simpa using c3) ?_
        refine gos ?_
        refine RetW.plain (by simp) ?_
        rw [show okS cur per X = false by simp_all [okS]]
        rfl
      refine CmpW.f (by simpa using c3) ?_
      refine gos ?_
      refine CallW.pure (has_does X sX.1 sX.2 4) rfl rfl ?_
      refine gos ?_
      by_cases c4 : cnt2 4 X = 0
      case neg =>
        refine CmpW.t (by simpa using c4) ?_
        refine gos ?_
        refine RetW.plain (by simp) ?_
        rw [show okS cur per X = false by simp_all [okS]]
        rfl
      refine CmpW.f (by simpa using c4) ?_
      have kX : okS cur per X = true := by simp [okS, c5, c3, c4]
      clear c5 c3 c4
      refine gos ?_
      refine And.intro (And.intro (of_decide_eq_true rfl) (of_decide_eq_true rfl)) ?_
      (repeat (first | refine gof ?_ | refine fun (vv : Nat) => ?_))
      refine CallW.pure (has_does Y sY.1 sY.2 5) rfl rfl ?_
      refine gos ?_
      by_cases c5 : (cnt2 5 Y : Int) = cur
      case neg =>
        refine CmpW.t (by simpa using c5) ?_
        refine gos ?_
        refine RetW.plain (by simp) ?_
        rw [kX, show okS cur per Y = false by simp_all [okS]]
        rfl
      refine CmpW.f (by simpa using c5) ?_
      refine gos ?_
      refine CallW.pure (has_does Y sY.1 sY.2 3) rfl rfl ?_
      refine gos ?_
      by_cases c3 : (cnt2 3 Y : Int) = per
      case neg =>
        refine CmpW.t (by simpa using c3) ?_
        refine gos ?_
        refine RetW.plain (by simp) ?_
        rw [kX, show okS cur per Y = false by simp_all [okS]]
        rfl
      refine CmpW.f (by simpa using c3) ?_
      refine gos ?_
      refine CallW.pure (has_does Y sY.1 sY.2 4) rfl rfl ?_
      refine gos ?_
      by_cases c4 : cnt2 4 Y = 0
      case neg =>
        refine CmpW.t (by simpa using c4) ?_
        refine gos ?_
        refine RetW.plain (by simp) ?_
        rw [kX, show okS cur per Y = false by simp_all [okS]]
        rfl
      refine CmpW.f (by simpa using c4) ?_
      have kY : okS cur per Y = true := by simp [okS, c5, c3, c4]
      clear c5 c3 c4
      refine gos ?_
      exact ⟨_, 0, fgts, kX, kY, rfl, rfl⟩
    rintro e h ⟨kX, kY, rfl, rfl⟩
    rw [kX, kY]
    refine AC.go tab ?_
    refine gos ?_
    refine RetW.plain (by simp) ?_
    rfl
end Go.Proofs.YtpipbjfcbbdicaaGreatDoor
