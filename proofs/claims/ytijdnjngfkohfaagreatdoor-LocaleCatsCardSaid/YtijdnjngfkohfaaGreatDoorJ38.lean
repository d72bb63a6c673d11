/- Rows at hand. -/
import Derived.Test.YtijdnjngfkohfaaGreatDoorJ36
import Derived.Test.YtijdnjngfkohfaaGreatDoorJ35
import Derived.Test.YtijdnjngfkohfaaGreatDoorJ30
set_option linter.unusedVariables false
set_option linter.unusedSimpArgs false
set_option maxRecDepth 100000
set_option maxHeartbeats 4000000

namespace Go.Proofs.YtijdnjngfkohfaaGreatDoor
open Go Go.Abs
attribute [local irreducible] DrawW CallW RetW AC Does CmpW
variable {m : Int}
theorem slClone_does {G : Globs} (s : List UInt8) (hs : s.length ≤ 281474976710656) : Does Tryz.prog G 150 [.str s] [] fun ae _ => ae = .ret (.str s) :=
  Does.of_calls (v := .string ⟨⟨s⟩⟩) Tryz.func150 rfl rfl (fun C => by simp [RepF]) fun C cargs hg hr => by
    rw [rep_str1 hr]
    exact AnyPu.stringslite_Clone Tryz.laysClone ⟨⟨s⟩⟩ C.w (by rw [str_size]; omega)
theorem SClone_does {G : Globs} (s : List UInt8) (hs : s.length ≤ 281474976710656) : Does Tryz.prog G 71 [.str s] [] fun ae _ => ae = .ret (.str s) := by
  refine Does.body tab Tryz.func71 rfl rfl ?_
  refine gos ?_
  refine CallW.pure (slClone_does s hs) rfl rfl ?_
  refine gos ?_
  refine RetW.plain (by simp) ?_
  rfl
theorem RetW.unnil1 {G : Globs} {n : Nat} {Q : AEnd → AHeap → Prop} {s : AHeap} {cs : List AV} (hn : n ≤ s.length) (h : Q (.ret (.agg (cs.map unnil))) (s.take n)) : RetW G n Q (.agg cs) s := by
  unfold RetW
  refine ⟨hn, fun C u hg hs hr => ⟨_, C, rfl, hg, Ext.refl C, by rw [hs], ?_, by rw [hs]; exact h⟩⟩
  simp only [RepV] at hr ⊢
  obtain ⟨ws, rfl, h1⟩ := hr
  exact ⟨ws, rfl, unnil_repL h1⟩
theorem pat_does (s : List UInt8) (hs : s.length < 100000) : Does Tryz.prog (GL m) 65 [.str s] [] fun ae _ => ae = .ret (.agg (patP s).cells) := by
  have hP := Parse_does (m := m) s hs
  rw [parF_eq] at hP
  cases hE : parE s with
  | error x =>
    rw [hE] at hP
    rw [show patP s = pd0 by simp [patP, hE]]
    refine Does.body tab Tryz.func65 rfl rfl ?_
    refine gos ?_
    intro v1
    refine gos ?_
    refine CallW.pure hP rfl rfl ?_
    refine gos ?_
    intro v2
    refine gos ?_
    refine RetW.unnil1 (by simp) ?_
    rfl
  | ok v =>
    rw [hE] at hP
    rw [show patP s = pdV v by simp [patP, hE]]
    obtain ⟨p, q, p', q', two, N⟩ := v
    cases two
    all_goals
      refine Does.body tab Tryz.func65 rfl rfl ?_
      refine gos ?_
      intro v1
      refine gos ?_
      refine CallW.pure hP rfl rfl ?_
      refine gos ?_
      intro v2
      refine gos ?_
      refine RetW.unnil1 (by simp) ?_
      rfl
theorem compact_does (s : List UInt8) (hs : s.length < 100000) : Does Tryz.prog (GL m) 146 [.str s] [] fun ae _ => ae = .ret (.agg (cpaP s).cells) := by
  have hP := CParse_does (m := m) s hs
  cases hE : cpaE s with
  | error x =>
    rw [hE] at hP
    rw [show cpaP s = cd0 by simp [cpaP, hE]]
    refine Does.body tab Tryz.func146 rfl rfl ?_
    refine gos ?_
    intro v1
    refine gos ?_
    refine CallW.pure hP rfl rfl ?_
    refine gos ?_
    intro v2
    refine gos ?_
    refine RetW.unnil1 (by simp) ?_
    rfl
  | ok v =>
    rw [hE] at hP
    rw [show cpaP s = ⟨v.N.mi, noopF v, pdV v⟩ by simp [cpaP, hE]]
    obtain ⟨p, q, p', q', two, N⟩ := v
    cases two
    all_goals
      refine Does.body tab Tryz.func146 rfl rfl ?_
      refine gos ?_
      intro v1
      refine gos ?_
      refine CallW.pure hP rfl rfl ?_
      refine gos ?_
      intro v2
      refine gos ?_
      refine RetW.unnil1 (by simp) ?_
      rfl
theorem placed1_does (n : Int) (hn : -9223372036854775808 ≤ n ∧ n ≤ 9223372036854775807) (s : List UInt8) (hs : s.length < 100000) : Does Tryz.prog (GL m) 148 ([] ++ [.str s] ++ [.fptr [.int .i64 n]]) [] fun ae _ => ae = .ret (.agg (encB (brzP n s))) := by
  have hP := BParse_does m s n hs hn
  cases hE : braF s n with
  | error x =>
    rw [hE] at hP
    rw [show brzP n s = ([], []) by simp [brzP, hE]]
    refine Does.body tab Tryz.func148 rfl rfl ?_
    refine gos ?_
    intro v1
    refine gos ?_
    refine CallW.pure hP rfl rfl ?_
    refine gos ?_
    intro v2
    refine gos ?_
    refine RetW.unnil1 (by simp) ?_
    rfl
  | ok x =>
    obtain ⟨ts, ps⟩ := x
    rw [hE] at hP
    rw [show brzP n s = (strEs ts, natEs ps) by simp [brzP, hE]]
    refine Does.body tab Tryz.func148 rfl rfl ?_
    refine gos ?_
    intro v1
    refine gos ?_
    refine CallW.pure hP rfl rfl ?_
    refine gos ?_
    intro v2
    refine gos ?_
    refine RetW.unnil1 (by simp) ?_
    rfl
theorem placed_does {G : Globs} (n : Int) : Does Tryz.prog G 69 [.int .i64 n] [] fun ae _ => ae = .ret (.func (.func 148) [] [.fptr [.int .i64 n]]) := by
  refine Does.body tab Tryz.func69 rfl rfl ?_
  refine gos ?_
  intro v1
  refine gos ?_
  refine RetW.wk (r' := .func (.func 148) [] [.fptr [.int .i64 n]]) (by simp) ?_ (Wk.func (Wk.ptr (k := 0) (i := 0) rfl rfl rfl rfl rfl)) ?_
  · rfl
  rfl
theorem space_does (x : TSpc) (h1 : x.cur.length < 60000) (h2 : x.num.length < 60000) : Does Tryz.prog (GL m) 67 [.agg x.cells] [] fun ae _ => ae = .ret (.agg (lspC x)) := by
  have hP := ClsParse_does m x.cur h1
  have hQ := ClsParse_does m x.num h2
  unfold lspC
  cases hE : clsF x.cur with
  | error p =>
    rw [hE] at hP
    cases hE2 : clsF x.num with
    | error p =>
      rw [hE2] at hQ
      rw [show clsP x.cur = [] by simp [clsP, hE], show clsP x.num = [] by simp [clsP, hE2]]
      refine Does.body tab Tryz.func67 rfl rfl ?_
      refine gos ?_
      intro v1
      refine gos ?_
      intro v2
      refine gos ?_
      refine CallW.pure hP rfl rfl ?_
      refine gos ?_
      refine CallW.pure hQ rfl rfl ?_
      refine gos ?_
      refine RetW.unnil1 (by simp) ?_
      rfl
    | ok c =>
      rw [hE2] at hQ
      rw [show clsP x.cur = [] by simp [clsP, hE], show clsP x.num = rgEs c by simp [clsP, hE2]]
      refine Does.body tab Tryz.func67 rfl rfl ?_
      refine gos ?_
      intro v1
      refine gos ?_
      intro v2
      refine gos ?_
      refine CallW.pure hP rfl rfl ?_
      refine gos ?_
      refine CallW.pure hQ rfl rfl ?_
      refine gos ?_
      refine RetW.unnil1 (by simp) ?_
      rfl
  | ok d =>
    rw [hE] at hP
    cases hE2 : clsF x.num with
    | error p =>
      rw [hE2] at hQ
      rw [show clsP x.cur = rgEs d by simp [clsP, hE], show clsP x.num = [] by simp [clsP, hE2]]
      refine Does.body tab Tryz.func67 rfl rfl ?_
      refine gos ?_
      intro v1
      refine gos ?_
      intro v2
      refine gos ?_
      refine CallW.pure hP rfl rfl ?_
      refine gos ?_
      refine CallW.pure hQ rfl rfl ?_
      refine gos ?_
      refine RetW.unnil1 (by simp) ?_
      rfl
    | ok c =>
      rw [hE2] at hQ
      rw [show clsP x.cur = rgEs d by simp [clsP, hE], show clsP x.num = rgEs c by simp [clsP, hE2]]
      refine Does.body tab Tryz.func67 rfl rfl ?_
      refine gos ?_
      intro v1
      refine gos ?_
      intro v2
      refine gos ?_
      refine CallW.pure hP rfl rfl ?_
      refine gos ?_
      refine CallW.pure hQ rfl rfl ?_
      refine gos ?_
      refine RetW.unnil1 (by simp) ?_
      rfl
end Go.Proofs.YtijdnjngfkohfaaGreatDoor

namespace Go.Proofs.YtijdnjngfkohfaaGreatDoor
open Go Go.Abs
attribute [local irreducible] DrawW CallW RetW AC Does CmpW
variable {m : Int}
theorem ShiftC_does {G : Globs} (q : CD) (mag : Int) : Does Tryz.prog G 119 [.agg q.cells, .int .i64 mag] [] fun ae _ => ae = .ret (.int .i64 (shiftC q mag)) := by
  obtain ⟨z, nb, ⟨a, b, c, d, two, N⟩⟩ := q
  refine Does.body tab Tryz.func119 rfl rfl ?_
  refine gos ?_
  intro v1
  refine gos ?_
  cases nb
  all_goals
    refine gos ?_
    refine RetW.plain (by simp) ?_
    rfl
theorem lrE_four (l : List TRow) : ∀ y ∈ l.map lrE, y.length = 4 := fun y hy => by obtain ⟨z, _, rfl⟩ := List.mem_map.1 hy; rfl
theorem lrows_does (l : List TRow) (hl : l.length < 50000) (hT : ∀ r ∈ l, r.fits) : Does Tryz.prog (GL m) 66 [rowL l] [] fun ae _ => ae = .ret (lrL l) := by
  have hll : (l.map encR).length = l.length := by simp
  refine Does.bodyA tab Tryz.func66 rfl rfl ?_
  refine AC.step tab ?_
  refine gos ?_
  refine AC.step tab ?_
  refine gos ?_
  refine AC.own 3 223 4 rfl (by omega) fun v0 => ?_
  refine AC.cutA (fun e h => ∃ va, e = (List.replicate 3 .any ++ [.sl 0 va] ++ List.replicate 30 .any) ∧ h = [some ⟨va, 223, 4, l.map lrE⟩]) ?_ ?_
  · refine AC.step tab ?_
    refine gos ?_
    rw [hll]
    refine AC.blk ?_
    refine AC.loopA (fun f e h => ∃ i va : Nat, f + i = l.length + 1 ∧ i ≤ l.length ∧ e = (List.replicate 3 .any ++ [.sl 0 va] ++ List.replicate 4 .any ++ [.fsl (l.map encR), .int .i64 l.length, .int .i64 i] ++ List.replicate 23 .any) ∧
        h = [some ⟨va, 223, 4, (l.take i).map lrE⟩]) (l.length + 1) ⟨_, fgts, 0, v0, by omega, by omega, rfl, rfl⟩ ?_
    rintro f e h ⟨i, va, hf, hi, rfl, rfl⟩
    refine AC.step tab ?_
    refine gos ?_
    by_cases hlt : i < l.length
    · obtain ⟨x, hx⟩ : ∃ d, l[i]? = some d := ⟨_, List.getElem?_eq_getElem hlt⟩
      have htk : (l.take (i + 1)).map lrE = (l.take i).map lrE ++ [lrE x] := by
        rw [List.take_add_one, hx]; simp
      obtain ⟨t1, t2⟩ := hT x (List.mem_of_getElem? hx)
      have dB := byCpa_does (G := GL m) x.texts (by omega) 146 [] rfl cpaP (fun s => rfl) (fun y hy => compact_does y.text (t2 y hy))
      have hE : lrE x = [.int .i64 x.mag, .int .i64 (shiftC (getC (cpaB x.texts) 5) x.mag), .bool (getC (cpaB x.texts) 5).nb, .fptr (bcC CD.cells (cpaB x.texts))] := rfl
      have dG := CpaGet_does (G := GL m) (cpaB x.texts) 5
      have dS := ShiftC_does (G := GL m) (getC (cpaB x.texts) 5) x.mag
      have hal : ((l.take i).map lrE).length ≤ l.length := by rw [List.length_map, List.length_take]; omega
      refine CmpW.T ?_
      refine gos ?_
      refine AC.step tab ?_
      refine gos ?_
      refine AC.seqA ?_
      refine AC.blk ?_
      refine AC.step tab ?_
      refine gos ?_
      refine And.intro (encR_two l) (And.intro (by omega) ⟨encR x, by rw [Int.toNat_natCast]; exact map_get hx, ?_⟩)
      refine gos ?_
      intro v2
      refine gos ?_
      refine AC.step tab ?_
      refine gos ?_
      refine CallW.pure dB rfl rfl ?_
      have hB : byC cd0 cpaP x.texts = cpaB x.texts := rfl
      rw [hB]
      generalize cpaB x.texts = B at *
      refine gos ?_
      refine AC.step tab ?_
      refine gos ?_
      refine CallW.pure dG rfl rfl ?_
      obtain ⟨q, hq⟩ : ∃ q, q = getC B 5 := ⟨_, rfl⟩
      rw [← hq] at dS hE ⊢
      obtain ⟨S, hS⟩ : ∃ S, S = shiftC q x.mag := ⟨_, rfl⟩
      rw [← hS] at dS hE
      obtain ⟨z, nb, ⟨a, b, c, d, two, N⟩⟩ := q
      refine gos ?_
      intro v3
      refine gos ?_
      refine AC.wk (Wk.ptr (k := 5) (i := 1) rfl rfl rfl rfl rfl) ?_
      refine AC.wk (Wk.ptr (k := 7) (i := 2) rfl rfl rfl rfl rfl) ?_
      refine AC.go tab ?_
      refine DrawW.P (.take 0 (.take 1 (.takeF 2 (.takeF 3 (.take 4 (.takeF 5 (.take 7 (.takeF 8 (.take 9 (.take 6 (.take 10 (.take 11 (.take 12 (.take 13 .done)))))))))))))) ?_
      refine gos ?_
      refine CallW.pure dS rfl rfl ?_
      refine gos ?_
      intro v4
      (repeat (first | refine gof ?_ | refine fun (vv : Nat) => ?_))
      refine AC.go tab ?_
      refine gos ?_
      exact ⟨f - 1, _, 1, by omega, fgts, i + 1, vv, by omega, by omega, rfl, by rw [htk, hE]; rfl⟩
    · refine CmpW.N ?_
      refine gos ?_
      refine AC.step tab ?_
      refine gos ?_
      have : i = l.length := by omega
      subst this
      exact ⟨_, 1, fgts, va, rfl, by rw [List.take_length]; rfl⟩
  rintro e h ⟨va, rfl, rfl⟩
  refine AC.go tab ?_
  refine gos ?_
  refine RetW.wk (r' := lrL l) (by simp) ?_ (Wk.row (k := 0) (i := 0) (o := ⟨va, 223, 4, l.map lrE⟩) rfl rfl rfl (clLL_map (fun _ => rfl) l)) ?_
  · rfl
  rfl
end Go.Proofs.YtijdnjngfkohfaaGreatDoor
