/- Decimals are read, and written. -/
import Derived.Test.YtjjppmbojcgdgaaGreatDoorDcn
import Derived.Test.YtjjppmbojcgdgaaGreatDoorTopP
import Derived.Lib.IndexAny
set_option linter.unusedVariables false
set_option linter.unusedSimpArgs false
set_option maxRecDepth 100000
set_option maxHeartbeats 4000000
namespace Go.Proofs.YtjjppmbojcgdgaaGreatDoor
open Go Go.Abs
attribute [local irreducible] DrawW CallW RetW AC Does CmpW
variable {G : Globs}

def rdD (v : Nat) (s : List UInt8) (p : Nat) : AObj := ⟨v, 243, 2, [[.str s, .int .i64 p]]⟩
def dgL : List UInt8 := [48, 49, 50, 51, 52, 53, 54, 55, 56, 57]
theorem tk_dg (b : UInt8) (r : List UInt8) : tkB dgL (b :: r) = digB b := by
  have : ∀ n : Fin 256, dgL.contains (UInt8.ofNat n.val) = digB (UInt8.ofNat n.val) := by decide
  have h := this ⟨b.toNat, b.toNat_lt⟩
  simpa [tkB] using h
def tkP (some s : List UInt8) (p : Nat) : Nat := if tkB some (s.drop p) then p + 1 else p
theorem tkP_le {some s : List UInt8} {p : Nat} (h : p ≤ s.length) : p ≤ tkP some s p ∧ tkP some s p ≤ s.length := by
  unfold tkP
  split
  · rename_i h2
    have : p < s.length := by
      rcases Nat.lt_or_ge p s.length with h3 | h3
      · exact h3
      · rw [List.drop_eq_nil_of_le h3] at h2; cases h2
    omega
  · omega
theorem skB_drop (some s : List UInt8) (p : Nat) : skB some (s.drop p) = s.drop (tkP some s p) := by
  unfold skB tkP
  split
  · rw [List.drop_drop]
  · rfl
theorem dtake_does (v : Nat) (some' s : List UInt8) (p : Nat) (hp : p ≤ s.length) (hs : s.length < 4294967296) : Does Tryz.prog G 144 [.ptr 0 v 0 0, .str some'] [some (rdD v s p)] fun ae O => ae = .ret (.bool (tkB some' (s.drop p))) ∧ O = [some (rdD v s (tkP some' s p))] := by
  unfold tkP
  refine Does.body tab Tryz.func144 rfl rfl ?_
  refine gos ?_
  refine DrawW.L ?_
  refine gos ?_
  by_cases hlt : p < s.length
  · obtain ⟨c, hc⟩ : ∃ c, s[p]? = some c := ⟨_, List.getElem?_eq_getElem hlt⟩
    have hT : tkB some' (s.drop p) = decide (0 ≤ Lib.indexByte some' c) := by
      rw [List.drop_eq_getElem_cons hlt, (List.getElem?_eq_some_iff.1 hc).2, ← Lib.contains_iff_indexByte]; rfl
    have dI := IndexByte_does G some' c.toNat
    rw [show ((c.toNat : Int)).toNat.toUInt8 = c from by simp] at dI
    rw [hT]
    generalize Lib.indexByte some' c = x at *
    refine CmpW.T ?_
    refine gos ?_
    refine And.intro (by omega) ⟨c, by rw [Int.toNat_natCast]; exact hc, ?_⟩
    refine gos ?_
    refine CallW.pure dI rfl rfl ?_
    refine gos ?_
    by_cases h0 : 0 ≤ x
    · refine CmpW.t (by simpa using h0) ?_
      refine gos ?_
      refine RetW.plain (by simp) ?_
      simp [h0, rdD]
    · refine CmpW.f (by simpa using h0) ?_
      refine gos ?_
      refine RetW.plain (by simp) ?_
      simp [h0, rdD]
  · have hT : tkB some' (s.drop p) = false := by rw [List.drop_eq_nil_of_le (by omega)]; rfl
    rw [hT]
    refine CmpW.N ?_
    refine gos ?_
    refine RetW.plain (by simp) ?_
    exact ⟨rfl, rfl⟩
theorem dg_one {s : List UInt8} {p : Nat} (h : tkB dgL (s.drop p) = true) : p < s.length ∧ dgT (s.drop p) = (s.drop p).take 1 ++ dgT (s.drop (p + 1)) := by
  have hp : p < s.length := by
    rcases Nat.lt_or_ge p s.length with h3 | h3
    · exact h3
    · rw [List.drop_eq_nil_of_le h3] at h; cases h
  refine ⟨hp, ?_⟩
  rw [List.drop_eq_getElem_cons hp] at *
  rw [tk_dg] at h
  unfold dgT
  rw [List.takeWhile_cons, if_pos h]
  rfl
theorem dg_none {s : List UInt8} {p : Nat} (h : tkB dgL (s.drop p) = false) : dgT (s.drop p) = [] := by
  rcases Nat.lt_or_ge p s.length with hp | hp
  · rw [List.drop_eq_getElem_cons hp] at *
    rw [tk_dg] at h
    unfold dgT
    rw [List.takeWhile_cons, if_neg (by simp [h])]
  · rw [List.drop_eq_nil_of_le hp]; rfl
theorem dg_len (l : List UInt8) : (dgT l).length ≤ l.length := by
  unfold dgT
  exact (List.takeWhile_sublist _).length_le
theorem ddigits_does (v : Nat) (s : List UInt8) (p : Nat) (hp : p ≤ s.length) (hs : s.length < 4294967296) : Does Tryz.prog G 145 [.ptr 0 v 0 0] [some (rdD v s p)] fun ae O => ae = .ret (.str (dgT (s.drop p))) ∧ O = [some (rdD v s (p + (dgT (s.drop p)).length))] := by
  refine Does.bodyA tab Tryz.func145 rfl rfl ?_
  refine AC.step tab ?_
  refine gos ?_
  refine AC.step tab ?_
  refine gos ?_
  refine AC.cutF tab (fun e h => ∃ k : Nat, p + k ≤ s.length ∧ dgT (s.drop p) = (s.drop p).take k ∧ e = ([.ptr 0 v 0 0] ++ List.replicate 2 .any ++ [.int .i64 p] ++ List.replicate 16 .any) ∧ h = [some (rdD v s (p + k))]) ?_ ?_
  · refine gos ?_
    refine AC.loopC tab (fun f e h => ∃ k : Nat, p + k + f = s.length + 1 ∧ p + k ≤ s.length ∧ dgT (s.drop p) = (s.drop p).take k ++ dgT (s.drop (p + k)) ∧ e = ([.ptr 0 v 0 0] ++ List.replicate 2 .any ++ [.int .i64 p] ++ List.replicate 16 .any) ∧ h = [some (rdD v s (p + k))]) (s.length + 1 - p)
      ⟨_, fgts, 0, by omega, by omega, by simp, rfl, rfl⟩ ?_
    rintro f e h ⟨k, hf, hk, hF, rfl, rfl⟩
    have dT := dtake_does (G := G) v dgL s (p + k) hk hs
    unfold tkP at dT
    refine gos ?_
    cases hb : tkB dgL (s.drop (p + k))
    · rw [hb] at dT
      refine CallW.meth 0 dT rfl rfl rfl rfl rfl rfl ?_
      refine gos ?_
      rw [dg_none hb, List.append_nil] at hF
      exact ⟨_, 1, fgts, k, hk, hF, rfl, rfl⟩
    · rw [hb] at dT
      obtain ⟨h1, h2⟩ := dg_one hb
      refine CallW.meth 0 dT rfl rfl rfl rfl rfl rfl ?_
      refine gos ?_
      refine ⟨f - 1, _, 1, by omega, fgts, k + 1, by omega, by omega, ?_, rfl, rfl⟩
      rw [hF, h2, ← List.append_assoc, List.take_add, List.drop_drop]; rfl
  rintro e h ⟨k, hk, hF, rfl, rfl⟩
  have hl : (dgT (s.drop p)).length = k := by rw [hF, List.length_take, List.length_drop]; omega
  refine AC.go tab ?_
  refine gos ?_
  refine DrawW.L ?_
  refine gos ?_
  refine And.intro (And.intro (by omega) (And.intro (by omega) (by omega))) ?_
  refine gos ?_
  refine RetW.plain (by simp) ?_
  rw [hl]
  refine ⟨?_, rfl⟩
  congr 2
  show List.drop ((p : Int)).toNat (List.take ((p + k : Nat) : Int).toNat s) = _
  rw [hF, Int.toNat_natCast, Int.toNat_natCast, List.drop_take, Nat.add_sub_cancel_left]
/-- Where an exponent ends. -/
def expP (s : List UInt8) (p : Nat) : Nat := if tkB [101, 69] (s.drop p) then tkP [43, 45] s (p + 1) + (dgT (s.drop (tkP [43, 45] s (p + 1)))).length else p
theorem expP_ok {s : List UInt8} {p : Nat} (hp : p ≤ s.length) : expP s p ≤ s.length ∧ s.drop (expP s p) = (expF (s.drop p)).2.2.2 := by
  unfold expP expF
  split
  · rename_i h
    have h1 : p < s.length := by
      rcases Nat.lt_or_ge p s.length with h3 | h3
      · exact h3
      · rw [List.drop_eq_nil_of_le h3] at h; cases h
    have h2 := tkP_le (some := [43, 45]) (s := s) (p := p + 1) (by omega)
    have h3 := dg_len (s.drop (tkP [43, 45] s (p + 1)))
    rw [List.length_drop] at h3
    refine ⟨by omega, ?_⟩
    simp only [List.drop_drop, skB_drop, dgU]
  · exact ⟨hp, rfl⟩
theorem dexp_does (v : Nat) (s : List UInt8) (p : Nat) (hp : p ≤ s.length) (hs : s.length < 1000000) : Does Tryz.prog G 146 [.ptr 0 v 0 0] [some (rdD v s p)]
    fun ae O => ae = .ret (.tuple [.bool (expF (s.drop p)).1, .str (expF (s.drop p)).2.1, .bool (expF (s.drop p)).2.2.1]) ∧ O = [some (rdD v s (expP s p))] := by
  have d1 := dtake_does (G := G) v [101, 69] s p hp (by omega)
  unfold expP expF
  unfold tkP at d1
  refine Does.body tab Tryz.func146 rfl rfl ?_
  refine gos ?_
  cases hb : tkB [101, 69] (s.drop p)
  · rw [hb] at d1
    refine CallW.meth 0 d1 rfl rfl rfl rfl rfl rfl ?_
    refine gos ?_
    refine RetW.plain (by simp) ?_
    exact ⟨rfl, rfl⟩
  rw [hb, if_pos rfl] at d1
  have h1 : p < s.length := by
    rcases Nat.lt_or_ge p s.length with h3 | h3
    · exact h3
    · rw [List.drop_eq_nil_of_le h3] at hb; cases hb
  have h2 := tkP_le (some := [43, 45]) (s := s) (p := p + 1) (by omega)
  have d2 := dtake_does (G := G) v [43, 45] s (p + 1) (by omega) (by omega)
  have d3 := ddigits_does (G := G) v s (tkP [43, 45] s (p + 1)) h2.2 (by omega)
  have h3 := dg_len (s.drop (tkP [43, 45] s (p + 1)))
  rw [List.length_drop] at h3
  have d4 := NTrim_does (G := G) (dgT (s.drop (tkP [43, 45] s (p + 1)))) (by omega)
  simp only [List.drop_drop, skB_drop, if_true]
  generalize tkP [43, 45] s (p + 1) = q at *
  generalize dgT (s.drop q) = D at *
  generalize trimF D = t at *
  generalize tkB [43, 45] (s.drop (p + 1)) = b2 at *
  refine CallW.meth 0 d1 rfl rfl rfl rfl rfl rfl ?_
  refine gos ?_
  refine DrawW.L ?_
  refine gos ?_
  by_cases hlt : p + 1 < s.length
  · obtain ⟨c, hc⟩ : ∃ c, s[p + 1]? = some c := ⟨_, List.getElem?_eq_getElem hlt⟩
    have hT : tkB [45] (s.drop (p + 1)) = decide (c = 45) := by
      rw [List.drop_eq_getElem_cons hlt, (List.getElem?_eq_some_iff.1 hc).2]; simp [tkB]
    rw [hT]
    refine CmpW.T ?_
    refine gos ?_
    refine And.intro (by omega) ⟨c, by rw [Int.toNat_natCast]; exact hc, ?_⟩
    refine gos ?_
    refine CmpW.s ?_
    refine gos ?_
    refine CallW.meth 0 d2 rfl rfl rfl rfl rfl rfl ?_
    refine gos ?_
    refine CallW.meth 0 d3 rfl rfl rfl rfl rfl rfl ?_
    refine gos ?_
    refine CallW.pure d4 rfl rfl ?_
    refine gos ?_
    refine CmpW.s ?_
    refine gos ?_
    refine RetW.plain (by simp) ?_
    have e1 : ((c.toNat : Int) == 45) = decide (c = 45) := by
      rw [Bool.eq_iff_iff, beq_iff_eq, decide_eq_true_iff]
      constructor
      · intro h; exact UInt8.toNat_inj.1 (show c.toNat = 45 by omega)
      · rintro rfl; rfl
    have e2 : (!(D == [])) = decide (D ≠ []) := by cases D <;> rfl
    rw [e1, e2]; exact ⟨rfl, rfl⟩
  · have hT : tkB [45] (s.drop (p + 1)) = false := by rw [List.drop_eq_nil_of_le (by omega)]; rfl
    rw [hT]
    refine CmpW.N ?_
    refine gos ?_
    refine CallW.meth 0 d2 rfl rfl rfl rfl rfl rfl ?_
    refine gos ?_
    refine CallW.meth 0 d3 rfl rfl rfl rfl rfl rfl ?_
    refine gos ?_
    refine CallW.pure d4 rfl rfl ?_
    refine gos ?_
    refine CmpW.s ?_
    refine gos ?_
    refine RetW.plain (by simp) ?_
    have e2 : (!(D == [])) = decide (D ≠ []) := by cases D <;> rfl
    rw [e2]; exact ⟨rfl, rfl⟩
theorem trimF_is (a : List UInt8) : isF (trimF a) = true := by
  unfold trimF
  split
  · exact trimL_all (by assumption)
  · rfl
theorem NInt_does (a : List UInt8) (hs : a.length < 1000000) : Does Tryz.prog G 147 [.str a] [] fun ae _ => ae = .ret (.tuple [.int .i64 ((intF a).1 : Int), .bool (intF a).2]) := by
  have dI := Is_does (G := G) a hs
  have dT := NTrim_does (G := G) a hs
  have hl := trimF_len a
  have hT := trimF_is a
  unfold intF
  generalize trimF a = t at *
  refine Does.bodyA tab Tryz.func147 rfl rfl ?_
  refine AC.step tab ?_
  refine gos ?_
  refine AC.cutF tab (fun e h => isF a = true ∧ t.length ≤ 18 ∧ e = ([.str a] ++ List.replicate 31 .any) ∧ h = []) ?_ ?_
  · refine gos ?_
    cases hb : isF a
    · rw [hb] at dI
      refine CallW.pure dI rfl rfl ?_
      refine gos ?_
      refine RetW.plain (by simp) ?_
      simp
    · rw [hb] at dI
      refine CallW.pure dI rfl rfl ?_
      refine gos ?_
      refine CallW.pure dT rfl rfl ?_
      refine gos ?_
      by_cases h18 : 18 < t.length
      · refine CmpW.t (by simp; omega) ?_
        refine gos ?_
        refine RetW.plain (by simp) ?_
        simp [h18]
      · refine CmpW.f (by simp; omega) ?_
        refine gos ?_
        exact ⟨_, 0, fgts, rfl, by omega, rfl, rfl⟩
  rintro e h ⟨hb, h18, rfl, rfl⟩
  rw [if_neg (by simp [hb]; omega)]
  dsimp only
  refine AC.step tab ?_
  refine gos ?_
  refine AC.cutF tab (fun e h => e = (List.replicate 4 .any ++ [.int .i64 ((t.foldl (fun n b => 10 * n + (b.toNat - 48)) 0 : Nat) : Int)] ++ List.replicate 27 .any) ∧ h = []) ?_ ?_
  · refine gos ?_
    refine CallW.pure dT rfl rfl ?_
    refine gos ?_
    have lb : (byteEs t).length = t.length := by simp [byteEs]
    rw [lb]
    refine AC.loopC tab (fun f e h => ∃ (i n : Nat), f + i = t.length + 1 ∧ i ≤ t.length ∧ n = (t.take i).foldl (fun n b => 10 * n + (b.toNat - 48)) 0 ∧ n < 10 ^ i ∧ e = (List.replicate 4 .any ++ [.int .i64 n] ++ List.replicate 13 .any ++ [.fsl (byteEs t), .int .i64 t.length, .int .i64 i] ++ List.replicate 11 .any) ∧ h = [])
      (t.length + 1) ⟨_, fgts, 0, 0, by omega, by omega, rfl, by simp, rfl, rfl⟩ ?_
    rintro f e h ⟨i, n, hf, hi, hn, hn10, rfl, rfl⟩
    refine gos ?_
    by_cases hlt : i < t.length
    · obtain ⟨c, hc⟩ : ∃ c, t[i]? = some c := ⟨_, List.getElem?_eq_getElem hlt⟩
      have hcd : digB c = true := List.all_eq_true.1 hT c (List.mem_of_getElem? hc)
      simp only [digB, decide_eq_true_eq] at hcd
      have h17 : n < 100000000000000000 := Nat.lt_of_lt_of_le hn10 (Nat.le_trans (Nat.pow_le_pow_right (by decide) (show i ≤ 17 by omega)) (by decide))
      have hsub : IntKind.u8.wrap ((c.toNat : Int) - 48) = ((c.toNat - 48 : Nat) : Int) := by rw [wrap_u8 (by omega) (by omega)]; omega
      have hw : (10 : Int) * (n : Int) + ((c.toNat - 48 : Nat) : Int) = ((10 * n + (c.toNat - 48) : Nat) : Int) := by omega
      refine CmpW.T ?_
      refine gos ?_
      refine And.intro (fun y hy => by obtain ⟨z, _, rfl⟩ := List.mem_map.1 hy; rfl) (And.intro (by omega) ⟨[.int .u8 c.toNat], by rw [Int.toNat_natCast]; unfold byteEs; rw [List.getElem?_map, hc]; rfl, ?_⟩)
      refine gos ?_
      rw [hsub]
      refine gos ?_
      rw [hw]
      refine ⟨f - 1, _, 0, by omega, fgts, i + 1, 10 * n + (c.toNat - 48), by omega, by omega, ?_, ?_, rfl, rfl⟩
      · rw [List.take_add_one, hc, List.foldl_append, ← hn]; rfl
      · rw [Nat.pow_succ]; omega
    · refine CmpW.N ?_
      refine gos ?_
      have : i = t.length := by omega
      subst this
      rw [List.take_length] at hn
      rw [← hn]
      exact ⟨_, 0, fgts, rfl, rfl⟩
  rintro e h ⟨rfl, rfl⟩
  refine AC.go tab ?_
  refine gos ?_
  refine RetW.plain (by simp) ?_
  rfl
theorem DParse_does (s : List UInt8) (hs : s.length < 100000) : Does Tryz.prog G 49 [.str s] [] fun ae _ => ae = .ret (.tuple [.agg (parD s).1.cells, .int .i64 (parD s).2]) := by
  have sk := skB_drop [45] s 0
  have hq1 := tkP_le (some := [45]) (s := s) (p := 0) (by omega)
  rw [List.drop_zero] at sk
  refine Does.bodyA tab Tryz.func49 rfl rfl ?_
  refine AC.step tab ?_
  refine gos ?_
  intro v0
  refine gos ?_
  refine AC.step tab ?_
  refine gos ?_
  intro vr
  refine gos ?_
  have d1 := dtake_does (G := G) vr [45] s 0 (by omega) (by omega)
  rw [List.drop_zero] at d1
  unfold parD
  rw [sk]
  generalize tkB [45] s = ng at *
  generalize tkP [45] s 0 = q1 at *
  clear sk
  refine AC.step tab ?_
  refine gos ?_
  refine CallW.meth 1 d1 rfl rfl rfl rfl rfl rfl ?_
  refine gos ?_
  have d2 := ddigits_does (G := G) vr s q1 hq1.2 (by omega)
  have hD1 := dg_len (s.drop q1)
  rw [List.length_drop] at hD1
  rw [show dgU (s.drop q1) = s.drop (q1 + (dgT (s.drop q1)).length) from by unfold dgU; rw [List.drop_drop]]
  generalize dgT (s.drop q1) = D1 at *
  obtain ⟨q2, hq2⟩ : ∃ q, q = q1 + D1.length := ⟨_, rfl⟩
  rw [← hq2] at d2 ⊢
  refine AC.step tab ?_
  refine gos ?_
  refine CallW.meth 1 d2 rfl rfl rfl rfl rfl rfl ?_
  refine gos ?_
  refine AC.cutF tab (fun e h => D1 ≠ [] ∧ e = ([.str s] ++ List.replicate 1 .any ++ [.ptr 0 v0 0 0] ++ List.replicate 1 .any ++ [.ptr 1 vr 0 0, .bool ng, .str D1, .str []] ++ List.replicate 72 .any) ∧ h = [some ⟨v0, 104, 3, [[.bool false, .str [], .int .i64 0]]⟩, some (rdD vr s q2)]) ?_ ?_
  · refine gos ?_
    by_cases h1 : D1 = []
    · refine CmpW.t (by simp [h1]) ?_
      refine gos ?_
      refine RetW.plain (by simp) ?_
      unfold parW
      rw [if_pos h1]; rfl
    · refine CmpW.f (by simp [h1]) ?_
      refine gos ?_
      exact ⟨_, 2, fgts, h1, rfl, rfl⟩
  rintro e h ⟨h1, rfl, rfl⟩
  have d3 := dtake_does (G := G) vr [46] s q2 (by omega) (by omega)
  unfold parW
  rw [if_neg h1]
  refine AC.cutF tab (fun e h => ∃ (q3 : Nat) (part : List UInt8), q3 ≤ s.length ∧ part.length ≤ s.length ∧ (if tkB [46] (s.drop q2) = true then (if dgT ((s.drop q2).drop 1) = [] then (zeroD, 1) else parX ng D1 (dgT ((s.drop q2).drop 1)) (dgU ((s.drop q2).drop 1))) else parX ng D1 [] (s.drop q2)) = parX ng D1 part (s.drop q3) ∧
      e = ([.str s] ++ List.replicate 1 .any ++ [.ptr 0 v0 0 0] ++ List.replicate 1 .any ++ [.ptr 1 vr 0 0, .bool ng, .str D1, .str part] ++ List.replicate 72 .any) ∧ h = [some ⟨v0, 104, 3, [[.bool false, .str [], .int .i64 0]]⟩, some (rdD vr s q3)]) ?_ ?_
  · unfold tkP at d3
    refine gos ?_
    cases hb : tkB [46] (s.drop q2)
    · rw [hb] at d3
      refine CallW.meth 1 d3 rfl rfl rfl rfl rfl rfl ?_
      refine gos ?_
      exact ⟨_, 2, fgts, q2, [], by omega, by simp, rfl, rfl, rfl⟩
    · rw [hb] at d3
      have hq : q2 < s.length := by
        rcases Nat.lt_or_ge q2 s.length with h3 | h3
        · exact h3
        · rw [List.drop_eq_nil_of_le h3] at hb; cases hb
      have d4 := ddigits_does (G := G) vr s (q2 + 1) (by omega) (by omega)
      have hD2 := dg_len (s.drop (q2 + 1))
      rw [List.length_drop] at hD2
      rw [List.drop_drop]
      rw [show dgU (s.drop (q2 + 1)) = s.drop (q2 + 1 + (dgT (s.drop (q2 + 1))).length) from by unfold dgU; rw [List.drop_drop]]
      generalize dgT (s.drop (q2 + 1)) = D2 at *
      refine CallW.meth 1 d3 rfl rfl rfl rfl rfl rfl ?_
      refine gos ?_
      refine CallW.meth 1 d4 rfl rfl rfl rfl rfl rfl ?_
      refine gos ?_
      by_cases h2 : D2 = []
      · refine CmpW.t (by simp [h2]) ?_
        refine gos ?_
        refine RetW.plain (by simp) ?_
        rw [if_pos rfl, if_pos h2]; rfl
      · refine CmpW.f (by simp [h2]) ?_
        refine gos ?_
        exact ⟨_, 2, fgts, _, D2, by omega, by omega, by rw [if_pos rfl, if_neg h2], rfl, rfl⟩
  rintro e h ⟨q3, part, hq3, hpl, hF, rfl, rfl⟩
  rw [hF]
  clear hF d3
  have d5 := dexp_does (G := G) vr s q3 hq3 (by omega)
  obtain ⟨hq4, hx⟩ := expP_ok hq3
  have hxl : (expF (s.drop q3)).2.1.length < 1000000 := by
    unfold expF
    split
    · have h1 := trimF_len (dgT (skB [43, 45] ((s.drop q3).drop 1)))
      have h2 := dg_len (skB [43, 45] ((s.drop q3).drop 1))
      rw [List.drop_drop, skB_drop, List.length_drop] at h2
      rw [List.drop_drop, skB_drop] at *
      dsimp only
      omega
    · dsimp only [List.length_nil]; omega
  unfold parX
  generalize expF (s.drop q3) = x at *
  obtain ⟨dn, ex, okx, r4⟩ := x
  dsimp only at *
  generalize expP s q3 = q4 at *
  refine AC.step tab ?_
  refine gos ?_
  refine CallW.meth 1 d5 rfl rfl rfl rfl rfl rfl ?_
  refine gos ?_
  refine AC.cutF tab (fun e h => okx = true ∧ r4 = [] ∧ e = (List.replicate 2 .any ++ [.ptr 0 v0 0 0] ++ List.replicate 2 .any ++ [.bool ng, .str D1, .str part, .bool dn, .str ex] ++ List.replicate 70 .any) ∧ h = [some ⟨v0, 104, 3, [[.bool false, .str [], .int .i64 0]]⟩]) ?_ ?_
  · cases okx
    · refine gos ?_
      refine RetW.plain (by simp) ?_
      rw [if_pos (.inl rfl)]; rfl
    · refine gos ?_
      by_cases h4 : q4 < s.length
      · refine CmpW.T ?_
        refine gos ?_
        refine RetW.plain (by simp) ?_
        rw [if_pos (.inr (by rw [← hx]; intro h; rw [List.drop_eq_nil_iff] at h; omega))]; rfl
      · refine CmpW.N ?_
        refine gos ?_
        exact ⟨_, 1, fgts, rfl, by rw [← hx, List.drop_eq_nil_iff]; omega, rfl, rfl⟩
  rintro e h ⟨rfl, rfl, rfl, rfl⟩
  rw [if_neg (by simp)]
  have d6 := NInt_does (G := G) ex hxl
  generalize intF ex = k at *
  obtain ⟨n, small⟩ := k
  dsimp only at *
  refine AC.step tab ?_
  refine gos ?_
  refine CallW.pure d6 rfl rfl ?_
  refine gos ?_
  refine AC.cutF tab (fun e h => D1.length + part.length ≤ 1000 ∧ small = true ∧ n ≤ 10000 ∧ e = (List.replicate 2 .any ++ [.ptr 0 v0 0 0] ++ List.replicate 2 .any ++ [.bool ng, .str D1, .str part, .bool dn] ++ List.replicate 2 .any ++ [.int .i64 n] ++ List.replicate 68 .any) ∧ h = [some ⟨v0, 104, 3, [[.bool false, .str [], .int .i64 0]]⟩]) ?_ ?_
  · refine gos ?_
    by_cases h5 : 1000 < D1.length + part.length
    · refine CmpW.T ?_
      refine gos ?_
      refine RetW.plain (by simp) ?_
      rw [if_pos (.inl h5)]; rfl
    refine CmpW.N ?_
    cases small
    · refine gos ?_
      refine RetW.plain (by simp) ?_
      rw [if_pos (.inr (.inl rfl))]; rfl
    · refine gos ?_
      by_cases h6 : 10000 < n
      · refine CmpW.T ?_
        refine gos ?_
        refine RetW.plain (by simp) ?_
        rw [if_pos (.inr (.inr h6))]; rfl
      · refine CmpW.N ?_
        refine gos ?_
        exact ⟨_, 1, fgts, by omega, rfl, by omega, rfl, rfl⟩
  rintro e h ⟨h5, rfl, h6, rfl, rfl⟩
  rw [if_neg (by simp; omega)]
  have d7 := Made_does (G := G) ng (D1 ++ part) (by simp; omega) ((if dn = true then -(n : Int) else (n : Int)) - (part.length : Int))
  generalize madeD ng (D1 ++ part) ((if dn = true then -(n : Int) else (n : Int)) - (part.length : Int)) = R at *
  cases dn
  · refine AC.go tab ?_
    refine gos ?_
    refine And.intro (by simp; omega) ?_
    refine gos ?_
    refine CallW.pure d7 rfl rfl ?_
    refine gos ?_
    refine RetW.plain (by simp) ?_
    rfl
  · rw [if_pos rfl, show -(n : Int) = 0 - (n : Int) by omega] at d7
    refine AC.go tab ?_
    refine gos ?_
    refine And.intro (by simp; omega) ?_
    refine gos ?_
    refine CallW.pure d7 rfl rfl ?_
    refine gos ?_
    refine RetW.plain (by simp) ?_
    rfl
theorem dsign_does (d : TDec) : Does Tryz.prog G 149 [.agg d.cells] [] fun ae _ => ae = .ret (.str (sgD d.neg)) := by
  obtain ⟨ng, ds, ex⟩ := d
  refine Does.body tab Tryz.func149 rfl rfl ?_
  refine gos ?_
  intro v1
  cases ng
  · refine gos ?_
    refine RetW.plain (by simp) ?_
    rfl
  · refine gos ?_
    refine RetW.plain (by simp) ?_
    rfl
theorem itoa_len (e : Int) (h0 : -30000 ≤ e) (h1 : e ≤ 30000) : (Lib.itoa e).length ≤ 6 := by
  unfold Lib.itoa
  split
  · have := dec_len 4 e.natAbs (by omega)
    simp only [List.length_cons]; omega
  · have := dec_len 4 e.toNat (by omega)
    omega
theorem norm_len (d : TDec) : (normD d).digits.length ≤ d.digits.length := by
  unfold normD madeD
  split
  · simp [zeroD]
  · have h1 := trimR_len (trimF d.digits)
    have h2 := trimF_len d.digits
    dsimp only; omega
theorem norm_exp (d : TDec) : -30000 ≤ (normD d).exp ∧ (normD d).exp ≤ 30000 := by
  unfold normD madeD
  split
  · simp [zeroD]
  · exact heldF_bd _
theorem strD_len (d : TDec) : (strD d).length ≤ d.digits.length + 8 := by
  have h1 := norm_len d
  have h2 := norm_exp d
  have h3 := itoa_len _ h2.1 h2.2
  have h4 : (sgD (normD d).neg).length ≤ 1 := by unfold sgD; split <;> simp
  unfold strD
  split
  · simp
  · split
    · rw [List.length_append]; omega
    · simp only [List.length_append, List.length_cons, List.length_nil]; omega
variable {m : Int}
theorem DString_does (d : TDec) (hs : d.digits.length < 100000) : Does Tryz.prog (GP m) 50 [.agg d.cells] [] fun ae _ => ae = .ret (.str (strD d)) := by
  have dN := Norm_does (G := GP m) d (by omega)
  have hl := norm_len d
  have he := norm_exp d
  have dI := Itoa_does m (normD d).exp (by omega) (by omega)
  have hI := itoa_len _ he.1 he.2
  unfold strD
  generalize normD d = e at *
  have dZ := Zero_does (G := GP m) e (by omega)
  have dS := dsign_does (G := GP m) e
  have hsg : (sgD e.neg).length ≤ 1 := by unfold sgD; split <;> simp
  obtain ⟨z, hz⟩ : ∃ z : Bool, z = decide (trimF e.digits = []) := ⟨_, rfl⟩
  rw [← hz] at dZ
  obtain ⟨ng, ds, ex⟩ := e
  dsimp only at *
  generalize sgD ng = sg at *
  generalize Lib.itoa ex = it at *
  refine Does.bodyA tab Tryz.func50 rfl rfl ?_
  refine AC.step tab ?_
  refine gos ?_
  intro v1
  refine gos ?_
  refine AC.step tab ?_
  refine gos ?_
  refine CallW.pure dN rfl rfl ?_
  refine gos ?_
  refine AC.wk (Wk.ptr (k := 1) (i := 0) rfl rfl rfl rfl rfl) ?_
  refine AC.cutF tab (fun e h => ¬ (trimF ds = []) ∧ ¬ (ex = 0) ∧ e = (List.replicate 1 .any ++ [.fptr [.bool ng, .str ds, .int .i64 ex]] ++ List.replicate 25 .any) ∧ h = []) ?_ ?_
  · refine gos ?_
    refine CallW.pure dZ rfl rfl ?_
    cases z
    · have hz' : ¬ trimF ds = [] := by simpa using hz.symm
      refine gos ?_
      by_cases h0 : ex = 0
      · refine CmpW.t (by simpa using h0) ?_
        refine gos ?_
        refine DrawW.P (.takeF 0 (.take 2 (.takeF 3 (.take 1 (.take 4 (.take 5 .done)))))) ?_
        refine gos ?_
        refine CallW.pure dS rfl rfl ?_
        refine gos ?_
        refine And.intro (by simp; omega) ?_
        refine gos ?_
        refine RetW.plain (by simp) ?_
        rw [if_neg hz', if_pos h0]
      · refine CmpW.f (by simpa using h0) ?_
        refine gos ?_
        exact ⟨_, 0, fgts, hz', h0, rfl, rfl⟩
    · have hz' : trimF ds = [] := by simpa using hz.symm
      refine gos ?_
      refine RetW.plain (by simp) ?_
      rw [if_pos hz']
  rintro e h ⟨hz', h0, rfl, rfl⟩
  rw [if_neg hz', if_neg h0]
  refine AC.go tab ?_
  refine gos ?_
  refine DrawW.P (.takeF 0 (.take 2 (.takeF 3 (.take 6 (.takeF 7 (.take 1 (.take 4 (.take 5 (.take 8 (.take 9 (.take 10 .done))))))))))) ?_
  refine gos ?_
  refine CallW.pure dS rfl rfl ?_
  refine gos ?_
  refine And.intro (by simp; omega) ?_
  refine gos ?_
  refine And.intro (by simp; omega) ?_
  refine gos ?_
  refine CallW.pure dI rfl rfl ?_
  refine gos ?_
  refine And.intro (by simp; omega) ?_
  refine gos ?_
  refine RetW.plain (by simp) ?_
  rfl
end Go.Proofs.YtjjppmbojcgdgaaGreatDoor
