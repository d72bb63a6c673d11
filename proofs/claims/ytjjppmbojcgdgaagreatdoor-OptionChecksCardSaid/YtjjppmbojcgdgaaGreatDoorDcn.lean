/- Decimals in their normal form; whether digits can be asked for so. -/
import Derived.Test.YtjjppmbojcgdgaaGreatDoorJ38
import Derived.Test.YtjjppmbojcgdgaaGreatDoorShelh
import Derived.Test.YtjjppmbojcgdgaaGreatDoorJ20
set_option linter.unusedVariables false
set_option linter.unusedSimpArgs false
set_option maxRecDepth 100000
set_option maxHeartbeats 4000000
namespace Go.Proofs.YtjjppmbojcgdgaaGreatDoor
open Go Go.Abs
attribute [local irreducible] DrawW CallW RetW AC Does CmpW
variable {G : Globs}

theorem TrimLeft_does (G : Globs) (s : List UInt8) (c : UInt8) (hc : c.toNat < 128) : Does Tryz.prog G 257 [.str s, .str [c]] [] fun ae _ => ae = .ret (.str (Lib.trimLeftB s c)) :=
  Does.of_calls (v := .string ⟨⟨Lib.trimLeftB s c⟩⟩) Tryz.func257 rfl rfl (fun C => by simp [RepF]) fun C cargs hg hr => by
    rw [rep_str2 hr]
    refine (Tryz.strings_TrimLeft_one ⟨⟨s⟩⟩ c hc C.w).mono ?_
    rintro e w' ⟨rfl, rfl⟩
    exact ⟨rfl, below_same _⟩
theorem NTrim_does (s : List UInt8) (hs : s.length < 1000000) : Does Tryz.prog G 206 [.str s] [] fun ae _ => ae = .ret (.str (trimF s)) := by
  have dI := Is_does (G := G) s hs
  have dT := TrimLeft_does G s 48 (by decide)
  unfold trimF
  generalize Lib.trimLeftB s 48 = t at *
  generalize isF s = b at *
  refine Does.body tab Tryz.func206 rfl rfl ?_
  refine gos ?_
  refine CallW.pure dI rfl rfl ?_
  cases b
  · refine gos ?_
    refine RetW.plain (by simp) ?_
    rfl
  · refine gos ?_
    refine CallW.pure dT rfl rfl ?_
    refine gos ?_
    refine RetW.plain (by simp) ?_
    rfl
theorem held_does (n : Int) : Does Tryz.prog G 208 [.int .i64 n] [] fun ae _ => ae = .ret (.int .i64 (heldF n)) := by
  refine Does.body tab Tryz.func208 rfl rfl ?_
  refine gos ?_
  refine RetW.plain (by simp) ?_
  rfl
def TDec.cells (d : TDec) : List AV := [.bool d.neg, .str d.digits, .int .i64 d.exp]
theorem Made_does (neg : Bool) (s : List UInt8) (hs : s.length < 1000000) (e : Int) : Does Tryz.prog G 134 [.bool neg, .str s, .int .i64 e] [] fun ae _ => ae = .ret (.agg (madeD neg s e).cells) := by
  have dT := NTrim_does (G := G) s hs
  have hl := trimF_len s
  have dH := held_does (G := G) e
  have hb := heldF_bd e
  unfold madeD
  generalize trimF s = t at *
  generalize heldF e = x at *
  have dR := TrimRight_does G t 48 (by decide) (by omega)
  have hr := trimR_len t
  generalize Lib.trimRightB t 48 = u at *
  have dH2 := held_does (G := G) (x + t.length - u.length)
  generalize heldF (x + t.length - u.length) = y at *
  refine Does.body tab Tryz.func134 rfl rfl ?_
  refine gos ?_
  intro v1
  refine gos ?_
  refine CallW.pure dT rfl rfl ?_
  refine gos ?_
  by_cases ht : t = []
  · refine CmpW.t (by simp [ht]) ?_
    refine gos ?_
    refine RetW.plain (by simp) ?_
    rw [if_pos ht]; rfl
  · refine CmpW.f (by simp [ht]) ?_
    refine gos ?_
    refine CallW.pure dR rfl rfl ?_
    refine gos ?_
    refine CallW.pure dH rfl rfl ?_
    refine gos ?_
    refine CallW.pure dH2 rfl rfl ?_
    refine gos ?_
    refine RetW.plain (by simp) ?_
    rw [if_neg ht]; rfl
theorem Norm_does (d : TDec) (hs : d.digits.length < 1000000) : Does Tryz.prog G 46 [.agg d.cells] [] fun ae _ => ae = .ret (.agg (normD d).cells) := by
  have dM := Made_does (G := G) d.neg d.digits hs d.exp
  unfold normD
  generalize madeD d.neg d.digits d.exp = x at *
  refine Does.body tab Tryz.func46 rfl rfl ?_
  refine gos ?_
  intro v1
  refine gos ?_
  intro v2
  refine gos ?_
  refine CallW.pure dM rfl rfl ?_
  refine gos ?_
  refine RetW.plain (by simp) ?_
  rfl
theorem Zero_does (d : TDec) (hs : d.digits.length < 1000000) : Does Tryz.prog G 148 [.agg d.cells] [] fun ae _ => ae = .ret (.bool (decide (trimF d.digits = []))) := by
  have dM := NTrim_does (G := G) d.digits hs
  generalize trimF d.digits = x at *
  refine Does.body tab Tryz.func148 rfl rfl ?_
  refine gos ?_
  intro v1
  refine gos ?_
  refine CallW.pure dM rfl rfl ?_
  refine gos ?_
  refine CmpW.s ?_
  refine gos ?_
  refine RetW.plain (by simp) ?_
  congr 2
  rw [Bool.eq_iff_iff]; simp
theorem in4_does (n lo hi : Int) : Does Tryz.prog G 205 [.int .i64 n, .int .i64 lo, .int .i64 hi] [] fun ae _ => ae = .ret (.bool (inB n lo hi)) := by
  refine Does.body tab Tryz.func205 rfl rfl ?_
  refine gos ?_
  by_cases h1 : lo ≤ n
  · refine CmpW.t (by simpa using h1) ?_
    refine gos ?_
    refine CmpW.s ?_
    refine gos ?_
    refine RetW.plain (by simp) ?_
    simp [inB, h1]
  · refine CmpW.f (by simp; omega) ?_
    refine gos ?_
    refine RetW.plain (by simp) ?_
    simp [inB, h1]
theorem MValid_does (n : Int) : Does Tryz.prog G 202 [.int .i64 n] [] fun ae _ => ae = .ret (.bool (modeB n)) := by
  refine Does.body tab Tryz.func202 rfl rfl ?_
  refine gos ?_
  by_cases h1 : 0 ≤ n
  · refine CmpW.t (by simpa using h1) ?_
    refine gos ?_
    refine CmpW.s ?_
    refine gos ?_
    refine RetW.plain (by simp) ?_
    simp [modeB, h1]
  · refine CmpW.f (by simp; omega) ?_
    refine gos ?_
    refine RetW.plain (by simp) ?_
    simp [modeB, h1]
def TPrec.cells (p : TPrec) : List AV := [.int .i64 p.kind, .int .i64 p.min, .int .i64 p.max, .bool p.inc.neg, .str p.inc.digits, .int .i64 p.inc.exp, .int .i64 p.mode, .int .i64 p.minInt]
theorem Valid4_does (p : TPrec) (hs : p.inc.digits.length < 1000000) : Does Tryz.prog G 131 [.agg p.cells] [] fun ae _ => ae = .ret (.bool (pvalF p)) := by
  have dM := MValid_does (G := G) p.mode
  have d1 := in4_does (G := G) p.minInt 0 100
  have d2 := in4_does (G := G) p.min 0 100
  have d3 := in4_does (G := G) p.max p.min 100
  have dN := Norm_does (G := G) p.inc hs
  have d4 := in4_does (G := G) (normD p.inc).digits.length 1 9
  have d5 := in4_does (G := G) (normD p.inc).exp (-100) 100
  unfold pvalF
  generalize modeB p.mode = b0 at *
  generalize inB p.minInt 0 100 = b1 at *
  generalize inB p.min 0 100 = b2 at *
  generalize inB p.max p.min 100 = b3 at *
  generalize normD p.inc = i at *
  obtain ⟨ng, ds, ex⟩ := i
  dsimp only at *
  generalize inB ds.length 1 9 = b4 at *
  generalize inB ex (-100) 100 = b5 at *
  refine Does.body tab Tryz.func131 rfl rfl ?_
  refine gos ?_
  intro v1
  refine gos ?_
  refine CallW.pure dM rfl rfl ?_
  cases b0
  · refine gos ?_
    refine RetW.plain (by simp) ?_
    rfl
  refine gos ?_
  refine CallW.pure d1 rfl rfl ?_
  cases b1
  · refine gos ?_
    refine RetW.plain (by simp) ?_
    rfl
  refine gos ?_
  refine CallW.pure d2 rfl rfl ?_
  cases b2
  · refine gos ?_
    refine RetW.plain (by simp) ?_
    rfl
  refine gos ?_
  by_cases k0 : p.kind = 0
  · refine CmpW.t (by simpa using k0) ?_
    refine gos ?_
    refine CallW.pure d3 rfl rfl ?_
    refine gos ?_
    refine RetW.plain (by simp) ?_
    simp [k0]
  refine CmpW.f (by simpa using k0) ?_
  refine gos ?_
  by_cases k1 : p.kind = 1
  · refine CmpW.t (by simpa using k1) ?_
    refine gos ?_
    by_cases k2 : 1 ≤ p.min
    · refine CmpW.t (by simpa using k2) ?_
      refine gos ?_
      refine CallW.pure d3 rfl rfl ?_
      refine gos ?_
      refine RetW.plain (by simp) ?_
      simp [k1, k2]
    · refine CmpW.f (by simp; omega) ?_
      refine gos ?_
      refine RetW.plain (by simp) ?_
      simp [k1, k2]
  refine CmpW.f (by simpa using k1) ?_
  refine gos ?_
  by_cases k2 : p.kind = 2
  · refine CmpW.t (by simpa using k2) ?_
    refine gos ?_
    refine CallW.pure dN rfl rfl ?_
    refine gos ?_
    intro v2
    cases ng
    · refine gos ?_
      refine CallW.pure d4 rfl rfl ?_
      cases b4
      · refine gos ?_
        refine RetW.plain (by simp) ?_
        simp [k0, k1, k2]
      · refine gos ?_
        refine CallW.pure d5 rfl rfl ?_
        refine gos ?_
        refine RetW.plain (by simp) ?_
        simp [k0, k1, k2]
    · refine gos ?_
      refine RetW.plain (by simp) ?_
      simp [k0, k1, k2]
  · refine CmpW.f (by simpa using k2) ?_
    refine gos ?_
    refine RetW.plain (by simp) ?_
    simp [k0, k1, k2]
end Go.Proofs.YtjjppmbojcgdgaaGreatDoor
