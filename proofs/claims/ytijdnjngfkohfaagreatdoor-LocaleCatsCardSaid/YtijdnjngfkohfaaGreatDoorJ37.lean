/- The first statement of layer 17: what is put for categories. -/
import Derived.Test.YtijdnjngfkohfaaGreatDoorJ36
set_option linter.unusedVariables false
set_option linter.unusedSimpArgs false
set_option maxRecDepth 100000
set_option maxHeartbeats 4000000

namespace Go.Proofs.YtijdnjngfkohfaaGreatDoor
open Go Go.Abs
attribute [local irreducible] DrawW CallW RetW AC Does CmpW
variable {m : Int}
structure TPut where
  cat : Int
  v : Int
def encPu (p : TPut) : List AV := [.int .i64 p.cat, .int .i64 p.v]
theorem encP_two (l : List TPut) : ∀ y ∈ l.map encPu, y.length = 2 := fun y hy => by obtain ⟨z, _, rfl⟩ := List.mem_map.1 hy; rfl
def lstC6 (B : BC Int) : List AV := [.int .i64 B.l0, .int .i64 B.l1, .int .i64 B.l2, .int .i64 B.l3, .int .i64 B.l4, .int .i64 B.l5]
theorem getC_zero (c : Int) : getC (bc0 ([] : List UInt8)) c = [] := by
  unfold getC
  split
  · exact bc0_all (p := fun s : List UInt8 => s = []) rfl _
  · rfl
theorem hasC_zero (c : Int) : hasC (bc0 ([] : List UInt8)) c = false := by
  by_cases h : 0 ≤ c ∧ c ≤ 5
  · rcases cat6 h with rfl | rfl | rfl | rfl | rfl | rfl <;> rfl
  · exact hasC_out h
theorem LocaleCats_does (hd : Does Tryz.prog (GL m) 12 [] [] fun ae _ => ae = .ret (.bool true)) (l : List TPut) (hl : l.length ≤ 140737488355328) (ask : Int) : Does Tryz.prog (GL m) 3 [.fsl (l.map encPu), .int .i64 ask] [] fun ae _ => ae = .ret (.bool true) := by
  have hll : (l.map encPu).length = l.length := by simp
  refine Does.bodyA tab Tryz.func3 rfl rfl ?_
  refine AC.step tab ?_
  refine gos ?_
  refine AC.step tab ?_
  refine gos ?_
  refine CallW.pure hd rfl rfl ?_
  refine gos ?_
  refine AC.step tab ?_
  refine gos ?_
  rw [hll]
  by_cases h40 : 40 < l.length
  · refine CmpW.t (by simp; omega) ?_
    refine gos ?_
    refine RetW.plain (by simp) ?_
    rfl
  refine CmpW.f (by simp; omega) ?_
  refine gos ?_
  refine AC.step tab ?_
  refine gos ?_
  intro v0
  refine gos ?_
  refine AC.step tab ?_
  refine gos ?_
  intro v1
  refine gos ?_
  refine AC.step tab ?_
  refine gos ?_
  intro v2
  refine gos ?_
  refine AC.cutA (fun e h => ∃ B : BC Int, e = (List.replicate 1 .any ++ [.int .i64 ask] ++ List.replicate 3 .any ++ [.ptr 0 v0 0 0, .ptr 1 v1 0 0, .ptr 2 v2 0 0] ++ List.replicate 104 .any) ∧ h = [some ⟨v0, 28, 12, [bcC encI B]⟩, some ⟨v1, 25, 6, [lstC6 B]⟩, some ⟨v2, 26, 6, [B.hs]⟩]) ?_ ?_
  · refine AC.step tab ?_
    refine gos ?_
    rw [hll]
    refine AC.blk ?_
    refine AC.loopA (fun f e h => ∃ (i : Nat) (B : BC Int), f + i = l.length + 1 ∧ i ≤ l.length ∧ e = (List.replicate 1 .any ++ [.int .i64 ask] ++ List.replicate 3 .any ++ [.ptr 0 v0 0 0, .ptr 1 v1 0 0, .ptr 2 v2 0 0] ++ List.replicate 15 .any ++ [.fsl (l.map encPu), .int .i64 l.length, .int .i64 i] ++ List.replicate 86 .any) ∧
        h = [some ⟨v0, 28, 12, [bcC encI B]⟩, some ⟨v1, 25, 6, [lstC6 B]⟩, some ⟨v2, 26, 6, [B.hs]⟩]) (l.length + 1) ⟨_, fgts, 0, bc0 0, by omega, by omega, rfl, rfl⟩ ?_
    rintro f e h ⟨i, B, hf, hi, rfl, rfl⟩
    refine AC.step tab ?_
    refine gos ?_
    by_cases hlt : i < l.length
    · obtain ⟨x, hx⟩ : ∃ d, l[i]? = some d := ⟨_, List.getElem?_eq_getElem hlt⟩
      refine CmpW.T ?_
      refine gos ?_
      refine AC.step tab ?_
      refine gos ?_
      refine AC.seqA ?_
      refine AC.blk ?_
      refine AC.step tab ?_
      refine gos ?_
      refine And.intro (encP_two l) (And.intro (by omega) ⟨encPu x, by rw [Int.toNat_natCast]; exact map_get hx, ?_⟩)
      refine gos ?_
      intro v3
      refine gos ?_
      obtain ⟨c, v⟩ := x
      refine AC.step tab ?_
      refine gos ?_
      refine CallW.meth 0 (IntPut_does v0 B c v) rfl rfl rfl rfl rfl rfl ?_
      refine gos ?_
      by_cases hc : 0 ≤ c ∧ c ≤ 5
      · obtain ⟨l0, l1, l2, l3, l4, l5, h0, h1, h2, h3, h4, h5⟩ := B
        rcases cat6 hc with rfl | rfl | rfl | rfl | rfl | rfl
        all_goals
          refine AC.go tab ?_
          refine gos ?_
          refine And.intro (And.intro (by dsimp only; decide) (by dsimp only; decide)) ?_
          refine gos ?_
          refine And.intro (And.intro (by dsimp only; decide) (by dsimp only; decide)) ?_
          refine gos ?_
          refine AC.go tab ?_
          refine gos ?_
          exact ⟨f - 1, _, 3, by omega, fgts, i + 1, putC ⟨l0, l1, l2, l3, l4, l5, h0, h1, h2, h3, h4, h5⟩ _ v, by omega, by omega, rfl, rfl⟩
      · rw [putC_out hc]
        refine AC.go tab ?_
        refine gos ?_
        by_cases h0 : 0 ≤ c
        · refine CmpW.T ?_
          refine gos ?_
          refine CmpW.N ?_
          refine gos ?_
          refine AC.go tab ?_
          refine gos ?_
          exact ⟨f - 1, _, 3, by omega, fgts, i + 1, B, by omega, by omega, rfl, rfl⟩
        · refine CmpW.N ?_
          refine gos ?_
          refine AC.go tab ?_
          refine gos ?_
          exact ⟨f - 1, _, 3, by omega, fgts, i + 1, B, by omega, by omega, rfl, rfl⟩
    · refine CmpW.N ?_
      refine gos ?_
      refine AC.step tab ?_
      refine gos ?_
      exact ⟨_, 3, fgts, B, rfl, rfl⟩
  rintro e h ⟨B, rfl, rfl⟩
  refine AC.wk (Wk.ptr (k := 5) (i := 0) rfl rfl rfl rfl rfl) ?_
  refine AC.wk (Wk.ptr (k := 6) (i := 1) rfl rfl rfl rfl rfl) ?_
  refine AC.wk (Wk.ptr (k := 7) (i := 2) rfl rfl rfl rfl rfl) ?_
  refine AC.keep [1, 5, 6, 7] 0 ?_
  refine AC.cutF tab (fun e h => e = (List.replicate 1 .any ++ [.int .i64 ask] ++ List.replicate 3 .any ++ [.fptr (bcC encI B), .fptr (lstC6 B)] ++ List.replicate 105 .any) ∧ h = []) ?_ ?_
  · obtain ⟨l0, l1, l2, l3, l4, l5, h0, h1, h2, h3, h4, h5⟩ := B
    refine gos ?_
    refine AC.loopC tab (fun f e h => ∃ c : Int, (f : Int) = 9 - c ∧ -2 ≤ c ∧ c ≤ 8 ∧ e = (List.replicate 1 .any ++ [.int .i64 ask] ++ List.replicate 3 .any ++ [.fptr (bcC encI ⟨l0, l1, l2, l3, l4, l5, h0, h1, h2, h3, h4, h5⟩), .fptr (lstC6 ⟨l0, l1, l2, l3, l4, l5, h0, h1, h2, h3, h4, h5⟩), .fptr [.bool h0, .bool h1, .bool h2, .bool h3, .bool h4, .bool h5]] ++ List.replicate 2 .any ++ [.int .i64 c] ++ List.replicate 101 .any) ∧ h = [])
      11 ⟨_, fgts, -2, by omega, by omega, by omega, rfl, rfl⟩ ?_
    rintro f e h ⟨c, hf, hc1, hc2, rfl, rfl⟩
    by_cases h8 : c = 8
    · subst h8
      refine gos ?_
      exact ⟨_, 0, fgts, rfl, rfl⟩
    have : c = -2 ∨ c = -1 ∨ c = 6 ∨ c = 7 ∨ c = 0 ∨ c = 1 ∨ c = 2 ∨ c = 3 ∨ c = 4 ∨ c = 5 := by omega
    rcases this with rfl | rfl | rfl | rfl | rfl | rfl | rfl | rfl | rfl | rfl
    · skip
      refine gos ?_
      refine CallW.pure (IntGet_does _ _) rfl rfl ?_
      refine gos ?_
      refine CmpW.f (by simp [getC, hasC, hasN, atN]) ?_
      refine gos ?_
      refine CallW.pure (IntHas_does _ _) rfl rfl ?_
      refine gos ?_
      exact ⟨f - 1, _, 0, by omega, fgts, -1, by omega, by omega, by omega, rfl, rfl⟩
    · skip
      refine gos ?_
      refine CallW.pure (IntGet_does _ _) rfl rfl ?_
      refine gos ?_
      refine CmpW.f (by simp [getC, hasC, hasN, atN]) ?_
      refine gos ?_
      refine CallW.pure (IntHas_does _ _) rfl rfl ?_
      refine gos ?_
      exact ⟨f - 1, _, 0, by omega, fgts, 0, by omega, by omega, by omega, rfl, rfl⟩
    · skip
      refine gos ?_
      refine CallW.pure (IntGet_does _ _) rfl rfl ?_
      refine gos ?_
      refine CmpW.f (by simp [getC, hasC, hasN, atN]) ?_
      refine gos ?_
      refine CallW.pure (IntHas_does _ _) rfl rfl ?_
      refine gos ?_
      exact ⟨f - 1, _, 0, by omega, fgts, 7, by omega, by omega, by omega, rfl, rfl⟩
    · skip
      refine gos ?_
      refine CallW.pure (IntGet_does _ _) rfl rfl ?_
      refine gos ?_
      refine CmpW.f (by simp [getC, hasC, hasN, atN]) ?_
      refine gos ?_
      refine CallW.pure (IntHas_does _ _) rfl rfl ?_
      refine gos ?_
      exact ⟨f - 1, _, 0, by omega, fgts, 8, by omega, by omega, by omega, rfl, rfl⟩
    · cases h0
      all_goals
        refine gos ?_
        refine CallW.pure (IntGet_does _ _) rfl rfl ?_
        refine gos ?_
        refine CmpW.f (by simp [getC, hasC, hasN, atN]) ?_
        refine gos ?_
        refine CallW.pure (IntHas_does _ _) rfl rfl ?_
        refine gos ?_
        exact ⟨f - 1, _, 0, by omega, fgts, 1, by omega, by omega, by omega, rfl, rfl⟩
    · cases h1
      all_goals
        refine gos ?_
        refine CallW.pure (IntGet_does _ _) rfl rfl ?_
        refine gos ?_
        refine CmpW.f (by simp [getC, hasC, hasN, atN]) ?_
        refine gos ?_
        refine CallW.pure (IntHas_does _ _) rfl rfl ?_
        refine gos ?_
        exact ⟨f - 1, _, 0, by omega, fgts, 2, by omega, by omega, by omega, rfl, rfl⟩
    · cases h2
      all_goals
        refine gos ?_
        refine CallW.pure (IntGet_does _ _) rfl rfl ?_
        refine gos ?_
        refine CmpW.f (by simp [getC, hasC, hasN, atN]) ?_
        refine gos ?_
        refine CallW.pure (IntHas_does _ _) rfl rfl ?_
        refine gos ?_
        exact ⟨f - 1, _, 0, by omega, fgts, 3, by omega, by omega, by omega, rfl, rfl⟩
    · cases h3
      all_goals
        refine gos ?_
        refine CallW.pure (IntGet_does _ _) rfl rfl ?_
        refine gos ?_
        refine CmpW.f (by simp [getC, hasC, hasN, atN]) ?_
        refine gos ?_
        refine CallW.pure (IntHas_does _ _) rfl rfl ?_
        refine gos ?_
        exact ⟨f - 1, _, 0, by omega, fgts, 4, by omega, by omega, by omega, rfl, rfl⟩
    · cases h4
      all_goals
        refine gos ?_
        refine CallW.pure (IntGet_does _ _) rfl rfl ?_
        refine gos ?_
        refine CmpW.f (by simp [getC, hasC, hasN, atN]) ?_
        refine gos ?_
        refine CallW.pure (IntHas_does _ _) rfl rfl ?_
        refine gos ?_
        exact ⟨f - 1, _, 0, by omega, fgts, 5, by omega, by omega, by omega, rfl, rfl⟩
    · cases h5
      all_goals
        refine gos ?_
        refine CallW.pure (IntGet_does _ _) rfl rfl ?_
        refine gos ?_
        refine CmpW.f (by simp [getC, hasC, hasN, atN]) ?_
        refine gos ?_
        refine CallW.pure (IntHas_does _ _) rfl rfl ?_
        refine gos ?_
        exact ⟨f - 1, _, 0, by omega, fgts, 6, by omega, by omega, by omega, rfl, rfl⟩
  rintro e h ⟨rfl, rfl⟩
  refine AC.step tab ?_
  refine gos ?_
  intro v3
  refine gos ?_
  refine AC.wk (Wk.ptr (k := 13) (i := 0) rfl rfl rfl rfl rfl) ?_
  have dG := StrGet_does (G := GL m) (bc0 []) ask
  have dH := StrHas_does (G := GL m) (bc0 []) ask
  rw [getC_zero] at dG
  rw [hasC_zero] at dH
  refine AC.go tab ?_
  refine gos ?_
  refine DrawW.P (.take 0 (.take 1 (.take 2 (.take 3 (.take 4 (.take 5 (.take 6 (.take 7 (.take 8 (.take 9 (.take 10 (.take 11 (.take 12 (.take 13 (.take 14 (.take 15 (.take 16 (.take 17 (.take 18 (.take 19 (.take 21 (.fork (.cons 20 (.take 22 (.take 23 (.take 24 (.take 25 (.take 26 .done))))) (.cons 22 (.take 20 (.take 23 (.take 24 (.take 25 (.take 26 .done))))) .nil)))))))))))))))))))))))) ?_
  by_cases hr : 0 ≤ ask ∧ ask < 6
  · (repeat' (first | exact trivial | refine CallW.pure dG rfl rfl ?_ | refine CallW.pure dH rfl rfl ?_ | refine CmpW.T ?_ | refine gon ?_ | refine And.intro ?_ ?_))
    all_goals
      refine RetW.plain (by simp) ?_
      rfl
  · have dB := IntGet_does (G := GL m) B ask
    rw [getC_out (by omega)] at dB
    by_cases h0 : 0 ≤ ask
    all_goals
      (repeat' (first | exact trivial | refine CallW.pure dG rfl rfl ?_ | refine CallW.pure dH rfl rfl ?_ | refine CallW.pure dB rfl rfl ?_ | refine CmpW.T ?_ | refine CmpW.N ?_ | refine gon ?_ | refine And.intro ?_ ?_))
      all_goals
        refine RetW.plain (by simp) ?_
        rfl
end Go.Proofs.YtijdnjngfkohfaaGreatDoor
