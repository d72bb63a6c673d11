/- What reads keeps to the text: its place stays within it. -/
import Derived.Test.YtpbjjhpihhnomaaGreatDoorJ16
import Derived.Test.YtpbjjhpihhnomaaGreatDoorJ19
import Derived.Test.YtpbjjhpihhnomaaGreatDoorJ15
import Derived.Test.YtpbjjhpihhnomaaGreatDoorJ20
set_option linter.unusedVariables false
set_option linter.unusedSimpArgs false
set_option maxRecDepth 100000
set_option maxHeartbeats 4000000

namespace Go.Proofs.YtpbjjhpihhnomaaGreatDoor
open Go Go.Abs
attribute [local irreducible] DrawW CallW RetW AC Does CmpW
variable {G : Globs}
open Gpl (Part cutL cutsF wrG)
def dsT (t : TTab) : List (List UInt8) := [t.dg.d0, t.dg.d1, t.dg.d2, t.dg.d3, t.dg.d4, t.dg.d5, t.dg.d6, t.dg.d7, t.dg.d8, t.dg.d9]
def fracP (t : TTab) (v : TVis) : List Part := if v.frac = [] then [] else [⟨3, t.point⟩, ⟨4, wrSet (dsT t) v.frac⟩]
def gwrF (t : TTab) (v : TVis) (last more : Int) : List Part := wrG (wrSet (dsT t)) t.comma true v.int (cutsF v.int.length last more t.minGroup) ++ fracP t v
theorem cutL_len (mo : Nat) : ∀ (f n : Nat) (acc : List Nat), (cutL mo f n acc).length ≤ f + acc.length + 1
  | 0, n, acc => by
    unfold cutL
    split
    · rw [List.length_cons]; omega
    · omega
  | f + 1, n, acc => by
    unfold cutL
    split
    · have := cutL_len mo f (n - mo) (mo :: acc)
      simp only [List.length_cons] at this
      omega
    · split
      · rw [List.length_cons]; omega
      · omega
theorem cuts_len (n : Nat) (last more least : Int) : (cutsF n last more least).length ≤ n + 2 := by
  unfold cutsF
  by_cases h : last < 1 ∨ (n : Int) - (if 0 < least then least else 0) < last
  · rw [if_pos h]; simp
  · rw [if_neg h]
    exact cutL_len (if more < 1 then last else more).toNat n (n - last.toNat) [last.toNat]
theorem isF_drop {s : List UInt8} (h : isF s = true) (k : Nat) : isF (s.drop k) = true := List.all_eq_true.2 fun x hx => List.all_eq_true.1 h x (List.mem_of_mem_drop hx)
theorem isF_take {s : List UInt8} (h : isF s = true) (k : Nat) : isF (s.take k) = true := List.all_eq_true.2 fun x hx => List.all_eq_true.1 h x (List.mem_of_mem_take hx)
theorem GWrite_does (t : TTab) (R : List AV) (v : TVis) (last more : Int) (h1 : -1000 ≤ last ∧ last ≤ 1000) (h2 : -1000 ≤ more ∧ more ≤ 1000) (h3 : 1 ≤ t.minGroup ∧ t.minGroup ≤ 1000)
    (hi : isF v.int = true) (hf : isF v.frac = true) (hl : v.int.length ≤ 1000 ∧ v.frac.length ≤ 1000) (hd : ∀ d ∈ dsT t, d.length ≤ 60) :
    Does Tryz.prog G 16 [.fptr (tabC t ++ R), .agg (visC v), .int .i64 last, .int .i64 more] [] fun ae _ => ae = .ret (.fsl ((gwrF t v last more).map encPt)) := by
  obtain ⟨ns, hns⟩ : ∃ ns, ns = cutsF v.int.length last more t.minGroup := ⟨_, rfl⟩
  have hsum : ns.sum = v.int.length := by rw [hns]; exact Gpl.cuts_sum h3.1
  have hlen : ns.length ≤ 1002 := by rw [hns]; have := cuts_len v.int.length last more t.minGroup; omega
  have dC := cuts_does (G := G) v.int.length (by omega) last more t.minGroup h1 h2 (by omega)
  rw [← hns] at dC
  have dW : ∀ s : List UInt8, isF s = true → s.length ≤ 1000 → Does Tryz.prog G 17 [.agg [.str t.dg.d0, .str t.dg.d1, .str t.dg.d2, .str t.dg.d3, .str t.dg.d4, .str t.dg.d5, .str t.dg.d6, .str t.dg.d7, .str t.dg.d8, .str t.dg.d9], .str s] [] fun ae _ => ae = .ret (.str (wrSet (dsT t) s)) :=
    fun s h h' => SetWrite_does _ _ _ _ _ _ _ _ _ _ s (by omega) h hd
  unfold gwrF
  rw [← hns]
  have ll : (numE ns).length = ns.length := by simp [numE]
  refine Does.bodyA tab Tryz.func16 rfl rfl ?_
  refine AC.step tab ?_
  refine gos ?_
  intro v1
  refine gos ?_
  refine AC.wk (Wk.ptr (k := 5) (i := 0) rfl rfl rfl rfl rfl) ?_
  refine AC.step tab ?_
  refine gos ?_
  refine AC.own 9 33 2 rfl (by decide) fun v2 => ?_
  refine AC.step tab ?_
  refine gos ?_
  refine AC.cutF tab (fun e h => ∃ va, e = ([.fptr (tabC t ++ R)] ++ List.replicate 4 .any ++ [.fptr (visC v)] ++ List.replicate 3 .any ++ [.sl 1 va] ++ List.replicate 73 .any) ∧ h = [none, some ⟨va, 33, 2, (wrG (wrSet (dsT t)) t.comma true v.int ns).map encPt⟩]) ?_ ?_
  · refine gos ?_
    refine CallW.pure dC rfl rfl ?_
    refine gos ?_
    rw [ll]
    refine AC.loopC tab (fun f e h => ∃ (i va : Nat) (dn : List Part) (w : List UInt8), f + i = ns.length + 1 ∧ i ≤ ns.length ∧ (ns.drop i).sum = w.length ∧ isF w = true ∧ w.length ≤ 1000 ∧ dn.length ≤ 2 * i ∧
        wrG (wrSet (dsT t)) t.comma true v.int ns = dn ++ wrG (wrSet (dsT t)) t.comma (decide (i = 0)) w (ns.drop i) ∧
        e = ([.fptr (tabC t ++ R)] ++ List.replicate 4 .any ++ [.fptr (visC v)] ++ List.replicate 3 .any ++ [.sl 1 va, .str w] ++ List.replicate 13 .any ++ [.fsl (numE ns), .int .i64 ns.length, .int .i64 i] ++ List.replicate 56 .any) ∧ h = [none, some ⟨va, 33, 2, dn.map encPt⟩]) (ns.length + 1)
      ⟨_, fgts, 0, v2, [], v.int, by omega, by omega, hsum, hi, hl.1, by simp, rfl, rfl, rfl⟩ ?_
    rintro f e h ⟨i, va, dn, w, hf', hi', hs, hw, hwl, hdl, hF, rfl, rfl⟩
    have ld : (dn.map encPt).length = dn.length := by simp
    refine gos ?_
    by_cases hlt : i < ns.length
    · obtain ⟨n, hn⟩ : ∃ n, ns[i]? = some n := ⟨_, List.getElem?_eq_getElem hlt⟩
      have hdr : ns.drop i = n :: ns.drop (i + 1) := by rw [List.drop_eq_getElem_cons hlt, (List.getElem?_eq_some_iff.1 hn).2]
      rw [hdr] at hs hF
      simp only [wrG] at hF
      rw [List.sum_cons] at hs
      refine CmpW.T ?_
      refine gos ?_
      refine And.intro (numE_one ns) (And.intro (by omega) ⟨[.int .i64 (n : Int)], by rw [Int.toNat_natCast]; unfold numE; rw [List.getElem?_map, hn]; rfl, ?_⟩)
      refine gos ?_
      by_cases hi0 : 0 < i
      · have hi1 : ¬ i = 0 := by omega
        refine CmpW.T ?_
        refine gos ?_
        intro v5
        refine gos ?_
        refine And.intro (And.intro (fun y hy => by rw [List.mem_singleton.1 hy]; rfl) (fun y hy => by rw [List.mem_singleton.1 hy]; rfl)) ?_
        refine gos ?_
        refine gobnd ?_
        intro v6
        refine gos ?_
        by_cases hn0 : 0 < n
        ·
          refine CmpW.T ?_
          refine gos ?_
          refine DrawW.L ?_
          refine gos ?_
          refine And.intro ⟨by omega, by omega, by omega⟩ ?_
          refine gos ?_
          rw [show (w.take (n : Int).toNat).drop (0 : Int).toNat = w.take n from by simp]
          refine CallW.pure (dW (w.take n) (isF_take hw n) (by rw [List.length_take]; omega)) rfl rfl ?_
          refine gos ?_
          intro v5
          refine gos ?_
          refine And.intro (And.intro (fun y hy => by rw [List.mem_singleton.1 hy]; rfl) (fun y hy => by rw [List.mem_singleton.1 hy]; rfl)) ?_
          refine gos ?_
          refine gobnd ?_
          intro v6
          refine gos ?_
          refine gos ?_
          refine And.intro ⟨by omega, by omega⟩ ?_
          refine gos ?_
          rw [Int.toNat_natCast]
          have hs' : (ns.drop (i + 1)).sum = (w.drop n).length := by rw [List.length_drop]; omega
          have hw' := isF_drop hw n
          have hwl' : (w.drop n).length ≤ 1000 := by rw [List.length_drop]; omega
          rw [if_pos hn0] at hF
          exact ⟨f - 1, _, 2, by omega, fgts, i + 1, _, dn ++ [⟨2, t.comma⟩, ⟨1, wrSet (dsT t) (w.take n)⟩], w.drop n, by omega, by omega, hs', hw', hwl', by simp only [List.length_append, List.length_cons, List.length_nil]; omega, by rw [hF]; simp [hi1], rfl, by rw [List.map_append]; simp only [List.append_assoc]; rfl⟩
        ·
          refine CmpW.N ?_
          refine gos ?_
          refine And.intro ⟨by omega, by omega⟩ ?_
          refine gos ?_
          rw [Int.toNat_natCast]
          have hs' : (ns.drop (i + 1)).sum = (w.drop n).length := by rw [List.length_drop]; omega
          have hw' := isF_drop hw n
          have hwl' : (w.drop n).length ≤ 1000 := by rw [List.length_drop]; omega
          rw [if_neg hn0] at hF
          exact ⟨f - 1, _, 2, by omega, fgts, i + 1, _, dn ++ [⟨2, t.comma⟩], w.drop n, by omega, by omega, hs', hw', hwl', by simp only [List.length_append, List.length_cons, List.length_nil]; omega, by rw [hF]; simp [hi1], rfl, by rw [List.map_append]; simp only [List.append_assoc]; rfl⟩
      · have hi1 : i = 0 := by omega
        refine CmpW.N ?_
        refine gos ?_
        by_cases hn0 : 0 < n
        ·
          refine CmpW.T ?_
          refine gos ?_
          refine DrawW.L ?_
          refine gos ?_
          refine And.intro ⟨by omega, by omega, by omega⟩ ?_
          refine gos ?_
          rw [show (w.take (n : Int).toNat).drop (0 : Int).toNat = w.take n from by simp]
          refine CallW.pure (dW (w.take n) (isF_take hw n) (by rw [List.length_take]; omega)) rfl rfl ?_
          refine gos ?_
          intro v5
          refine gos ?_
          refine And.intro (And.intro (fun y hy => by rw [List.mem_singleton.1 hy]; rfl) (fun y hy => by rw [List.mem_singleton.1 hy]; rfl)) ?_
          refine gos ?_
          refine gobnd ?_
          intro v6
          refine gos ?_
          refine gos ?_
          refine And.intro ⟨by omega, by omega⟩ ?_
          refine gos ?_
          rw [Int.toNat_natCast]
          have hs' : (ns.drop (i + 1)).sum = (w.drop n).length := by rw [List.length_drop]; omega
          have hw' := isF_drop hw n
          have hwl' : (w.drop n).length ≤ 1000 := by rw [List.length_drop]; omega
          rw [if_pos hn0] at hF
          exact ⟨f - 1, _, 2, by omega, fgts, i + 1, _, dn ++ [⟨1, wrSet (dsT t) (w.take n)⟩], w.drop n, by omega, by omega, hs', hw', hwl', by simp only [List.length_append, List.length_cons, List.length_nil]; omega, by rw [hF]; simp [hi1], rfl, by rw [List.map_append]; simp only [List.append_assoc]; rfl⟩
        ·
          refine CmpW.N ?_
          refine gos ?_
          refine And.intro ⟨by omega, by omega⟩ ?_
          refine gos ?_
          rw [Int.toNat_natCast]
          have hs' : (ns.drop (i + 1)).sum = (w.drop n).length := by rw [List.length_drop]; omega
          have hw' := isF_drop hw n
          have hwl' : (w.drop n).length ≤ 1000 := by rw [List.length_drop]; omega
          rw [if_neg hn0] at hF
          exact ⟨f - 1, _, 2, by omega, fgts, i + 1, _, dn, w.drop n, by omega, by omega, hs', hw', hwl', by omega, by rw [hF]; simp [hi1], rfl, rfl⟩
    · refine CmpW.N ?_
      refine gos ?_
      rw [List.drop_of_length_le (by omega)] at hF
      simp only [wrG, List.append_nil] at hF
      rw [hF]
      exact ⟨_, 2, fgts, va, rfl, rfl⟩
  rintro e h ⟨va, rfl, rfl⟩
  obtain ⟨ps, hps⟩ : ∃ ps, ps = wrG (wrSet (dsT t)) t.comma true v.int ns := ⟨_, rfl⟩
  have hpl : ps.length ≤ 2004 := by
    have : ∀ (f : List UInt8 → List UInt8) (c : List UInt8) (ns : List Nat) (b : Bool) (w : List UInt8), (wrG f c b w ns).length ≤ 2 * ns.length := by
      intro f c ns
      induction ns with
      | nil => intro b w; simp [wrG]
      | cons n ns ih =>
        intro b w
        have := ih false (w.drop n)
        simp only [wrG, List.length_append, List.length_cons]
        split <;> split <;> simp only [List.length_cons, List.length_nil] <;> omega
    have := this (wrSet (dsT t)) t.comma ns true v.int
    rw [← hps] at this
    omega
  rw [← hps]
  clear hps
  have ld : (ps.map encPt).length = ps.length := by simp
  unfold fracP
  refine AC.step tab ?_
  refine gos ?_
  by_cases h0 : v.frac = []
  · refine CmpW.f (by simp [h0]) ?_
    refine gos ?_
    refine AC.go tab ?_
    refine gos ?_
    refine RetW.wk (r' := .fsl (ps.map encPt)) (by simp) ?_ (Wk.row (k := 0) (i := 1) (o := ⟨va, 33, 2, ps.map encPt⟩) rfl rfl rfl (cLL_map (fun _ => rfl) _)) ?_
    · rfl
    simp [h0]
  · refine CmpW.t (by simp [h0]) ?_
    refine gos ?_
    refine DrawW.P (.take 0 (.take 1 (.take 2 (.take 3 (.take 4 (.takeF 5 (.take 6 (.take 7 (.take 8 (.take 9 (.take 10 (.takeF 11 (.take 12 (.takeF 13 (.take 14 (.take 15 (.take 16 (.take 17 (.take 18 .done))))))))))))))))))) ?_
    refine gos ?_
    refine CallW.pure (dW v.frac hf hl.2) rfl rfl ?_
    refine gos ?_
    intro v5
    refine gos ?_
    refine And.intro (And.intro (fun y hy => by simp only [List.mem_cons, List.not_mem_nil, or_false] at hy; rcases hy with rfl | rfl <;> rfl) (fun y hy => by simp only [List.mem_cons, List.not_mem_nil, or_false] at hy; rcases hy with rfl | rfl <;> rfl)) ?_
    refine gos ?_
    refine gobnd ?_
    intro v6
    refine gos ?_
    refine AC.go tab ?_
    refine gos ?_
    refine RetW.wk (r' := .fsl ((ps ++ [(⟨3, t.point⟩ : Part), (⟨4, wrSet (dsT t) v.frac⟩ : Part)]).map encPt)) (by simp) ?_ (Wk.row (k := 0) (i := 1) (o := ⟨v6, 33, 2, (ps ++ [(⟨3, t.point⟩ : Part), (⟨4, wrSet (dsT t) v.frac⟩ : Part)]).map encPt⟩) rfl ?_ rfl (cLL_map (fun _ => rfl) _)) ?_
    · rfl
    · rw [List.map_append]; rfl
    rw [if_neg h0]
end Go.Proofs.YtpbjjhpihhnomaaGreatDoor

namespace Go.Proofs.YtpbjjhpihhnomaaGreatDoor
open Go Go.Abs
attribute [local irreducible] DrawW CallW RetW AC Does CmpW
variable {m : Int}
open Grd (nextF digOne)
def grd (t : TTab) : Grd.Loc := ⟨dsT t, t.comma, t.point, oneF t.comma, oneF t.point⟩
theorem digOne_son (s : List UInt8) : ∀ (ds : List (List UInt8)) (i : Nat), digOne ds i s = sonL s ds i
  | [], _ => rfl
  | d :: ds, i => by
    unfold digOne sonL
    rw [digOne_son s ds (i + 1)]
theorem sonL_lt {s : List UInt8} : ∀ {ds : List (List UInt8)} {i d n : Nat}, sonL s ds i = some (d, n) → d < i + ds.length ∧ n ≤ s.length ∧ 0 < n
  | [], i, d, n, h => by cases h
  | x :: ds, i, d, n, h => by
    unfold sonL at h
    split at h
    · rename_i hx
      cases h
      refine ⟨by simp, (List.isPrefixOf_iff_prefix.1 hx.2).length_le, List.length_pos_iff.2 hx.1⟩
    · have := sonL_lt h
      simp only [List.length_cons]
      omega
def nxV (r : Nat × Nat × Nat) : AV := .tuple [.int .i64 (r.1 : Int), .str (if r.1 = 1 then [UInt8.ofNat (48 + r.2.1)] else []), .int .i64 (r.2.2 : Int)]
theorem gnext_does (t : TTab) (R : List AV) (s : List UInt8) (hs : s.length < 1000000) (hc : t.comma.length ≤ 60) (hp : t.point.length ≤ 60) :
    Does Tryz.prog (GL m) 67 [.fptr (tabC t ++ R), .str s] [] fun ae _ => ae = .ret (nxV (nextF (grd t) s)) := by
  have dS := SetOne_does (GL m) t.dg.d0 t.dg.d1 t.dg.d2 t.dg.d3 t.dg.d4 t.dg.d5 t.dg.d6 t.dg.d7 t.dg.d8 t.dg.d9 s
  have hN : nextF (grd t) s = match sonF (dsT t) s with
    | some (d, n) => (1, d, n)
    | none => if oneF t.comma && t.comma.isPrefixOf s then (2, 0, t.comma.length) else if oneF t.point && t.point.isPrefixOf s then (3, 0, t.point.length) else (0, 0, 0) := by
    unfold nextF
    rw [show digOne (grd t).dg 0 s = sonF (dsT t) s from digOne_son s _ _]
    rfl
  rw [hN]
  clear hN
  have hlt : ∀ d n, sonF (dsT t) s = some (d, n) → d < 10 := fun d n h => by have := (sonL_lt h).1; simpa [dsT] using this
  rw [show [t.dg.d0, t.dg.d1, t.dg.d2, t.dg.d3, t.dg.d4, t.dg.d5, t.dg.d6, t.dg.d7, t.dg.d8, t.dg.d9] = dsT t from rfl] at dS
  refine Does.bodyA tab Tryz.func67 rfl rfl ?_
  refine AC.step tab ?_
  refine gos ?_
  refine AC.step tab ?_
  refine gos ?_
  cases hr : sonF (dsT t) s with
  | some r =>
    obtain ⟨d, n⟩ := r
    have hd := hlt d n hr
    rw [hr] at dS
    refine CallW.pure dS rfl rfl ?_
    refine gos ?_
    have hd' : d = 0 ∨ d = 1 ∨ d = 2 ∨ d = 3 ∨ d = 4 ∨ d = 5 ∨ d = 6 ∨ d = 7 ∨ d = 8 ∨ d = 9 := by omega
    rcases hd' with rfl | rfl | rfl | rfl | rfl | rfl | rfl | rfl | rfl | rfl
    all_goals
      refine gos ?_
      refine RetW.plain (by simp) ?_
      rfl
  | none =>
    rw [hr] at dS
    refine CallW.pure dS rfl rfl ?_
    refine gos ?_
    refine AC.step tab ?_
    refine gos ?_
    refine DrawW.P (.take 0 (.take 1 (.take 2 (.take 3 (.takeF 4 (.take 5 (.take 6 (.take 7 (.take 8 (.take 9 (.takeF 10 (.take 11 (.take 14 (.take 12 (.take 13 .done))))))))))))))) ?_
    refine gos ?_
    intro v1
    refine gos ?_
    refine AC.wk (Wk.row (k := 40) (i := 0) rfl rfl rfl rfl) ?_
    refine AC.loopC tab (fun f e h => ∃ i : Nat, f + i = 3 ∧ i ≤ 2 ∧ (1 ≤ i → (oneF t.comma && t.comma.isPrefixOf s) = false) ∧ (2 ≤ i → (oneF t.point && t.point.isPrefixOf s) = false) ∧
      e = (List.replicate 1 .any ++ [.str s] ++ List.replicate 38 .any ++ [.fsl ([⟨2, t.comma⟩, ⟨3, t.point⟩].map encPt), .int .i64 2, .int .i64 i] ++ List.replicate 18 .any) ∧ h = [none]) 3 ⟨_, fgts, 0, by omega, by omega, fun h => absurd h (by omega), fun h => absurd h (by omega), rfl, rfl⟩ ?_
    rintro f e h ⟨i, hf, hi, hA, hB, rfl, rfl⟩
    refine gos ?_
    by_cases h0 : i = 0
    · subst h0
      refine CmpW.T ?_
      refine gos ?_
      refine And.intro (encPt_two _) (And.intro (by omega) ⟨encPt ⟨2, t.comma⟩, rfl, ?_⟩)
      refine gos ?_
      intro v2
      refine gos ?_
      refine CallW.pure (GOne_does m t.comma (by omega)) rfl rfl ?_
      cases h1 : oneF t.comma with
      | false =>
        refine gos ?_
        exact ⟨2, _, 1, by omega, fgts, 1, by omega, by omega, fun _ => rfl, fun h => absurd h (by omega), rfl, rfl⟩
      | true =>
        refine gos ?_
        refine CallW.pure (HasPrefix_does _ s t.comma) rfl rfl ?_
        cases h2 : t.comma.isPrefixOf s with
        | false =>
          refine gos ?_
          exact ⟨2, _, 1, by omega, fgts, 1, by omega, by omega, fun _ => rfl, fun h => absurd h (by omega), rfl, rfl⟩
        | true =>
          refine gos ?_
          refine DrawW.L ?_
          refine gos ?_
          refine RetW.plain (by simp) ?_
          rfl
    by_cases h0' : i = 1
    · subst h0'
      refine CmpW.T ?_
      refine gos ?_
      refine And.intro (encPt_two _) (And.intro (by omega) ⟨encPt ⟨3, t.point⟩, rfl, ?_⟩)
      refine gos ?_
      intro v2
      refine gos ?_
      have hA1 := hA (by omega)
      refine CallW.pure (GOne_does m t.point (by omega)) rfl rfl ?_
      cases h1 : oneF t.point with
      | false =>
        refine gos ?_
        exact ⟨1, _, 1, by omega, fgts, 2, by omega, by omega, fun _ => hA1, fun _ => rfl, rfl, rfl⟩
      | true =>
        refine gos ?_
        refine CallW.pure (HasPrefix_does _ s t.point) rfl rfl ?_
        cases h2 : t.point.isPrefixOf s with
        | false =>
          refine gos ?_
          exact ⟨1, _, 1, by omega, fgts, 2, by omega, by omega, fun _ => hA1, fun _ => rfl, rfl, rfl⟩
        | true =>
          refine gos ?_
          refine DrawW.L ?_
          refine gos ?_
          refine RetW.plain (by simp) ?_
          simp [hA1, nxV]
    · refine CmpW.N ?_
      refine gos ?_
      refine AC.go tab ?_
      refine gos ?_
      refine RetW.plain (by simp) ?_
      simp [hA (by omega), hB (by omega), nxV]
end Go.Proofs.YtpbjjhpihhnomaaGreatDoor

namespace Go.Proofs.YtpbjjhpihhnomaaGreatDoor
open Go Go.Abs
set_option linter.unusedVariables false
set_option linter.unusedSimpArgs false
def Rd.ok (r : Rd) : Prop := r.p ≤ r.s.length
def Keeps {α : Type} (f : Rd → α × Rd) : Prop := ∀ r, r.ok → (f r).2.ok ∧ (f r).2.s = r.s
theorem keeps_rtn {α : Type} (a : α) : Keeps (rtn a) := fun r h => ⟨h, rfl⟩
theorem keeps_bnd {α β : Type} {f : Rd → α × Rd} {g : α → Rd → β × Rd} (h1 : Keeps f) (h2 : ∀ a, Keeps (g a)) : Keeps (bnd f g) := fun r h => by
  obtain ⟨a1, a2⟩ := h1 r h
  obtain ⟨b1, b2⟩ := h2 (f r).1 (f r).2 a1
  exact ⟨b1, b2.trans a2⟩
theorem numG_keeps : ∀ (k : Nat) (r : Rd) (n sh : Nat), r.ok → (numG k r n sh).2.ok ∧ (numG k r n sh).2.s = r.s
  | 0, r, n, sh, h => ⟨h, rfl⟩
  | k + 1, r, n, sh, h => by
    rw [numG]
    cases hb : r.s[r.p]? with
    | none => exact ⟨h, rfl⟩
    | some b =>
      have hlt := (List.getElem?_eq_some_iff.1 hb).1
      have h1 : Rd.ok { r with p := r.p + 1 } := by show r.p + 1 ≤ r.s.length; omega
      simp only
      split
      · exact ⟨h, rfl⟩
      split
      · split
        · exact ⟨h1, rfl⟩
        · exact ⟨h1, rfl⟩
      · exact numG_keeps k _ _ _ h1
theorem numG_lt : ∀ (k : Nat) (r : Rd) (n sh : Nat), n < 2 ^ sh → sh % 7 = 0 → (numG k r n sh).1 < 9223372036854775808
  | 0, r, n, sh, h, h7 => by simp [numG]
  | k + 1, r, n, sh, h, h7 => by
    rw [numG]
    cases hb : r.s[r.p]? with
    | none => simp
    | some b =>
      simp only
      split
      · simp
      rename_i h56
      have h2 : ∀ x, x < 128 → n + x * 2 ^ sh < 2 ^ (sh + 7) := fun x hx => by
        rw [Nat.pow_add]
        have : x * 2 ^ sh ≤ 127 * 2 ^ sh := Nat.mul_le_mul_right _ (by omega)
        omega
      have h3 : 2 ^ (sh + 7) ≤ 2 ^ 63 := Nat.pow_le_pow_right (by decide) (by omega)
      have h4 : (2 : Nat) ^ 63 = 9223372036854775808 := by decide
      split
      · rename_i hlt
        split
        · simp
        · have := h2 b.toNat hlt
          show n + b.toNat * 2 ^ sh < _
          omega
      · exact numG_lt k _ _ _ (h2 _ (Nat.mod_lt _ (by decide))) (by omega)
theorem num_keeps : Keeps numRd := fun r h => by
  unfold numRd
  split
  · exact ⟨h, rfl⟩
  · exact numG_keeps _ _ _ _ h
theorem numRd_lt (r : Rd) : (numRd r).1 < 9223372036854775808 := by
  unfold numRd
  split
  · simp
  · exact numG_lt _ _ _ _ (by simp) rfl
theorem text_keeps : Keeps textRd := fun r h => by
  obtain ⟨a1, a2⟩ := num_keeps r h
  unfold textRd
  simp only
  split
  · exact ⟨a1, a2⟩
  · rename_i hn
    simp only [not_or] at hn
    refine ⟨?_, a2⟩
    show (numRd r).2.p + (numRd r).1 ≤ (numRd r).2.s.length
    have : (numRd r).2.p ≤ (numRd r).2.s.length := a1
    omega
theorem count_keeps (m : Nat) : Keeps (countRd m) := fun r h => by
  obtain ⟨a1, a2⟩ := num_keeps r h
  unfold countRd
  simp only
  split
  · exact ⟨a1, a2⟩
  · exact ⟨a1, a2⟩
theorem count_le (m : Nat) (r : Rd) : (countRd m r).1 ≤ m := by
  unfold countRd
  simp only
  split
  · simp
  · omega
theorem listG_keeps {α : Type} {one : Rd → α × Rd} (h1 : Keeps one) : ∀ n, Keeps (listG one n)
  | 0 => fun r h => ⟨h, rfl⟩
  | n + 1 => fun r h => by
    rw [listG]
    split
    · exact ⟨h, rfl⟩
    · obtain ⟨a1, a2⟩ := h1 r h
      obtain ⟨b1, b2⟩ := listG_keeps h1 n (one r).2 a1
      exact ⟨b1, b2.trans a2⟩
theorem list_keeps {α : Type} {one : Rd → α × Rd} (h1 : Keeps one) : Keeps (listRd one) := fun r h => by
  obtain ⟨a1, a2⟩ := count_keeps 65536 r h
  obtain ⟨b1, b2⟩ := listG_keeps h1 (countRd 65536 r).1 (countRd 65536 r).2 a1
  exact ⟨b1, b2.trans a2⟩
theorem txt_keeps : Keeps txtRd := keeps_bnd num_keeps fun _ => keeps_bnd text_keeps fun _ => keeps_rtn _
theorem txts_keeps : Keeps (listRd txtRd) := list_keeps txt_keeps
theorem row_keeps : Keeps rowRd := keeps_bnd num_keeps fun _ => keeps_bnd txts_keeps fun _ => keeps_rtn _
theorem unt_keeps : Keeps untRd := keeps_bnd text_keeps fun _ => keeps_bnd txts_keeps fun _ => keeps_rtn _
theorem cur_keeps : Keeps curRd := keeps_bnd text_keeps fun _ => keeps_bnd text_keeps fun _ => keeps_bnd text_keeps fun _ => keeps_bnd txts_keeps fun _ => keeps_bnd num_keeps fun _ => keeps_bnd num_keeps fun _ => keeps_bnd num_keeps fun _ => keeps_bnd num_keeps fun _ => keeps_rtn _
theorem rows_keeps : Keeps (listRd rowRd) := list_keeps row_keeps
theorem unts_keeps : Keeps (listRd untRd) := list_keeps unt_keeps
theorem curs_keeps : Keeps (listRd curRd) := list_keeps cur_keeps
end Go.Proofs.YtpbjjhpihhnomaaGreatDoor
