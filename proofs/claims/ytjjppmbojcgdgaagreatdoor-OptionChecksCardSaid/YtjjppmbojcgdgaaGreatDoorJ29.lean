/- The three tables: well formed, and small. -/
import Derived.Test.YtjjppmbojcgdgaaGreatDoorJ07
import Derived.Test.YtjjppmbojcgdgaaGreatDoorJ28
import Derived.Test.YtjjppmbojcgdgaaGreatDoorJ23
import Derived.Test.YtjjppmbojcgdgaaGreatDoorJ25
import Derived.Test.YtjjppmbojcgdgaaGreatDoorJ16
import Derived.Test.YtjjppmbojcgdgaaGreatDoorJ26
import Derived.Test.YtjjppmbojcgdgaaGreatDoorJ17
import Derived.Test.YtjjppmbojcgdgaaGreatDoorJ15
set_option linter.unusedVariables false
set_option linter.unusedSimpArgs false
set_option maxRecDepth 100000
set_option maxHeartbeats 4000000

namespace Go.Proofs.YtjjppmbojcgdgaaGreatDoor
open Go Go.Abs
set_option linter.unusedVariables false
set_option linter.unusedSimpArgs false
def sumB {α : Type} (f : α → Nat) (l : List α) : Nat := (l.map f).sum
@[simp] theorem sumB_nil {α : Type} (f : α → Nat) : sumB f [] = 0 := rfl
@[simp] theorem sumB_cons {α : Type} (f : α → Nat) (x : α) (l : List α) : sumB f (x :: l) = f x + sumB f l := by simp [sumB]
@[simp] theorem sumB_append {α : Type} (f : α → Nat) (l m : List α) : sumB f (l ++ m) = sumB f l + sumB f m := by simp [sumB]
end Go.Proofs.YtjjppmbojcgdgaaGreatDoor

namespace Go.Proofs.YtjjppmbojcgdgaaGreatDoor
open Go Go.Abs
set_option linter.unusedVariables false
set_option linter.unusedSimpArgs false
theorem cats_up {l : List TTxt} {ok : Nat → Bool} (h : allB (fun i => catG l i && ok i) l.length = true) : ∀ (d i : Nat) (x y : TTxt), l[i]? = some x → l[i + d]? = some y → x.cat ≤ y.cat
  | 0, i, x, y, hx, hy => by rw [Nat.add_zero, hx] at hy; cases hy; exact Int.le_refl _
  | d + 1, i, x, y, hx, hy => by
    have hl := (List.getElem?_eq_some_iff.1 hy).1
    have h1 := allB_iff.1 h (i + (d + 1)) hl
    obtain ⟨z, hz⟩ : ∃ z, l[i + d]? = some z := ⟨_, List.getElem?_eq_getElem (by omega)⟩
    have ih := cats_up h d i x z hx hz
    have e : i + (d + 1) - 1 = i + d := by omega
    simp only [catG, hy, e, hz, Bool.and_eq_true, Bool.or_eq_true, decide_eq_true_eq] at h1
    have := h1.1.2
    omega
theorem cats_in {l : List TTxt} {ok : Nat → Bool} (h : catsF l ok = true) : ∀ x ∈ l, 0 ≤ x.cat ∧ x.cat ≤ 5 := by
  intro x hx
  obtain ⟨i, hi, rfl⟩ := List.getElem_of_mem hx
  rw [catsF, Bool.and_eq_true] at h
  have hg : l[i]? = some l[i] := List.getElem?_eq_getElem hi
  have h1 := allB_iff.1 h.2 i hi
  simp only [catG, hg, Bool.and_eq_true, decide_eq_true_eq] at h1
  refine ⟨h1.1.1, ?_⟩
  have h2 := h.1
  rw [lastC, List.getLast?_eq_getElem?] at h2
  have hl : l[l.length - 1]? = some l[l.length - 1] := List.getElem?_eq_getElem (by omega)
  rw [hl] at h2
  have h3 : l[l.length - 1].cat = 5 := by simpa using h2
  have h4 := cats_up h.2 (l.length - 1 - i) i l[i] l[l.length - 1] hg (by rw [show i + (l.length - 1 - i) = l.length - 1 by omega]; exact hl)
  omega
theorem check_fine {t : TTab} (h : checkF t = 0) : setF t.dg.list = true ∧ ckSign t = true ∧ ckPoint t = true ∧ inF t.minGroup 1 4 = true ∧ ckPat t = true ∧ ckRules t = true ∧ ckRow t = true ∧ ckCur t = true ∧ ckUnit t = true ∧
    catsF t.munit (plcK 2 t.munit) = true ∧ ckSpc t = true := by
  unfold checkF at h
  repeat' split at h
  all_goals first
    | (exfalso; revert h; decide)
    | simp_all
end Go.Proofs.YtjjppmbojcgdgaaGreatDoor

namespace Go.Proofs.YtjjppmbojcgdgaaGreatDoor
open Go Go.Abs
set_option linter.unusedVariables false
set_option linter.unusedSimpArgs false
def lstV : AV → List (List AV)
  | .fsl es => es
  | _ => []
def pdV (v : PatV) : PD := ⟨lstV (affV v).a, lstV (affV v).b, lstV (affV v).c, lstV (affV v).d, v.two, v.N⟩
def patP (s : List UInt8) : PD := match parE s with
  | .ok v => pdV v
  | .error _ => pd0
def cpaP (s : List UInt8) : CD := match cpaE s with
  | .ok v => ⟨v.N.mi, noopF v, pdV v⟩
  | .error _ => cd0
def brzP (n : Int) (s : List UInt8) : List (List AV) × List (List AV) := match braF s n with
  | .ok (ts, ps) => (strEs ts, natEs ps)
  | .error _ => ([], [])
def clsP (s : List UInt8) : List (List AV) := match clsF s with
  | .ok c => rgEs c
  | .error _ => []
def cpaB (l : List TTxt) : BC CD := byC cd0 cpaP l
def brzB (n : Int) (l : List TTxt) : BC (List (List AV) × List (List AV)) := byC ([], []) (brzP n) l
def strB (l : List TTxt) : BC (List UInt8) := byC [] id l
def shiftC (q : CD) (mag : Int) : Int := if q.nb then 0 else IntKind.i64.wrap (IntKind.i64.wrap (mag - q.z) + 1)
def lrE (r : TRow) : List AV := [.int .i64 r.mag, .int .i64 (shiftC (getC (cpaB r.texts) 5) r.mag), .bool (getC (cpaB r.texts) 5).nb, .fptr (bcC CD.cells (cpaB r.texts))]
def lrL (l : List TRow) : AV := .fsl (l.map lrE)
def lspC (x : TSpc) : List AV := [.fsl (clsP x.cur), .fsl (clsP x.num), .str x.ins]
def unitV (u : TUnt) : AV := .fptr (bcC encB (brzB 1 u.texts))
def curV (c : TCur) : AV := .fptr (bcC encS1 (strB c.names))
def locC (o t : TTab) : List AV :=
  tabC o ++ (patP t.decimal).cells ++ (patP t.per).cells ++ (patP t.money).cells ++ (patP t.account).cells ++ [.fsl ((rulP t.rules).1.map encRul), lrL t.short, lrL t.long, lrL t.mshort] ++ lspC t.before ++ lspC t.after ++
  [.fmap (mapG (·.name) unitV [] t.units), .fmap (mapG (·.code) curV [] (t.curs.filter fun c => decide (c.names ≠ []))), .fptr (bcC encB (brzB 2 t.munit))]
def newF (t : TTab) : AV := if checkF t = 0 then .tuple [.fptr (locC (decF (encF t)).1 t), .int .i64 0] else .tuple [.nilp, .int .i64 5]
def loadF (s : List UInt8) : AV := if (decF s).2 = 0 then newF (decF s).1 else .tuple [.nilp, .int .i64 5]
end Go.Proofs.YtjjppmbojcgdgaaGreatDoor

namespace Go.Proofs.YtjjppmbojcgdgaaGreatDoor
open Go Go.Abs
attribute [local irreducible] DrawW CallW RetW AC Does CmpW
variable {m : Int}
theorem slClone_does {G : Globs} (s : List UInt8) (hs : s.length ≤ 281474976710656) : Does Tryz.prog G 167 [.str s] [] fun ae _ => ae = .ret (.str s) :=
  Does.of_calls (v := .string ⟨⟨s⟩⟩) Tryz.func167 rfl rfl (fun C => by simp [RepF]) fun C cargs hg hr => by
    rw [rep_str1 hr]
    exact AnyPu.stringslite_Clone Tryz.laysClone ⟨⟨s⟩⟩ C.w (by rw [str_size]; omega)
theorem SClone_does {G : Globs} (s : List UInt8) (hs : s.length ≤ 281474976710656) : Does Tryz.prog G 73 [.str s] [] fun ae _ => ae = .ret (.str s) := by
  refine Does.body tab Tryz.func73 rfl rfl ?_
  refine gos ?_
  refine CallW.pure (slClone_does s hs) rfl rfl ?_
  refine gos ?_
  refine RetW.plain (by simp) ?_
  rfl
theorem RetW.unnil1 {G : Globs} {n : Nat} {Q : AEnd → AHeap → Prop} {s : AHeap} {cs : List AV} (hn : n ≤ s.length) (h : Q (.ret (.agg (cs.map unnil))) (s.take n)) : RetW G n Q (.agg cs) s := by
  unfold RetW
  refine ⟨hn, fun C u hg hs hr => ⟨_, C, rfl, hg, Ext.refl C, by rw [hs], ?_, by rw [hs]; exact h⟩⟩
  simp only [RepV] at hr ⊢
  obtain ⟨ws, rfl, h1⟩ := hr
  exact ⟨ws, rfl, unnil_repL h1⟩
theorem pat_does (s : List UInt8) (hs : s.length < 100000) : Does Tryz.prog (GL m) 67 [.str s] [] fun ae _ => ae = .ret (.agg (patP s).cells) := by
  have hP := Parse_does (m := m) s hs
  rw [parF_eq] at hP
  cases hE : parE s with
  | error x =>
    rw [hE] at hP
    rw [show patP s = pd0 by simp [patP, hE]]
    refine Does.body tab Tryz.func67 rfl rfl ?_
    refine gos ?_
    intro v1
    refine gos ?_
    refine CallW.pure hP rfl rfl ?_
    refine gos ?_
    intro v2
    refine gos ?_
    refine RetW.unnil1 (by simp) ?_
    rfl
  | ok v =>
    rw [hE] at hP
    rw [show patP s = pdV v by simp [patP, hE]]
    obtain ⟨p, q, p', q', two, N⟩ := v
    cases two
    all_goals
      refine Does.body tab Tryz.func67 rfl rfl ?_
      refine gos ?_
      intro v1
      refine gos ?_
      refine CallW.pure hP rfl rfl ?_
      refine gos ?_
      intro v2
      refine gos ?_
      refine RetW.unnil1 (by simp) ?_
      rfl
theorem compact_does (s : List UInt8) (hs : s.length < 100000) : Does Tryz.prog (GL m) 162 [.str s] [] fun ae _ => ae = .ret (.agg (cpaP s).cells) := by
  have hP := CParse_does (m := m) s hs
  cases hE : cpaE s with
  | error x =>
    rw [hE] at hP
    rw [show cpaP s = cd0 by simp [cpaP, hE]]
    refine Does.body tab Tryz.func162 rfl rfl ?_
    refine gos ?_
    intro v1
    refine gos ?_
    refine CallW.pure hP rfl rfl ?_
    refine gos ?_
    intro v2
    refine gos ?_
    refine RetW.unnil1 (by simp) ?_
    rfl
  | ok v =>
    rw [hE] at hP
    rw [show cpaP s = ⟨v.N.mi, noopF v, pdV v⟩ by simp [cpaP, hE]]
    obtain ⟨p, q, p', q', two, N⟩ := v
    cases two
    all_goals
      refine Does.body tab Tryz.func162 rfl rfl ?_
      refine gos ?_
      intro v1
      refine gos ?_
      refine CallW.pure hP rfl rfl ?_
      refine gos ?_
      intro v2
      refine gos ?_
      refine RetW.unnil1 (by simp) ?_
      rfl
theorem placed1_does (n : Int) (hn : -9223372036854775808 ≤ n ∧ n ≤ 9223372036854775807) (s : List UInt8) (hs : s.length < 100000) : Does Tryz.prog (GL m) 164 ([] ++ [.str s] ++ [.fptr [.int .i64 n]]) [] fun ae _ => ae = .ret (.agg (encB (brzP n s))) := by
  have hP := BParse_does m s n hs hn
  cases hE : braF s n with
  | error x =>
    rw [hE] at hP
    rw [show brzP n s = ([], []) by simp [brzP, hE]]
    refine Does.body tab Tryz.func164 rfl rfl ?_
    refine gos ?_
    intro v1
    refine gos ?_
    refine CallW.pure hP rfl rfl ?_
    refine gos ?_
    intro v2
    refine gos ?_
    refine RetW.unnil1 (by simp) ?_
    rfl
  | ok x =>
    obtain ⟨ts, ps⟩ := x
    rw [hE] at hP
    rw [show brzP n s = (strEs ts, natEs ps) by simp [brzP, hE]]
    refine Does.body tab Tryz.func164 rfl rfl ?_
    refine gos ?_
    intro v1
    refine gos ?_
    refine CallW.pure hP rfl rfl ?_
    refine gos ?_
    intro v2
    refine gos ?_
    refine RetW.unnil1 (by simp) ?_
    rfl
theorem placed_does {G : Globs} (n : Int) : Does Tryz.prog G 71 [.int .i64 n] [] fun ae _ => ae = .ret (.func (.func 164) [] [.fptr [.int .i64 n]]) := by
  refine Does.body tab Tryz.func71 rfl rfl ?_
  refine gos ?_
  intro v1
  refine gos ?_
  refine RetW.wk (r' := .func (.func 164) [] [.fptr [.int .i64 n]]) (by simp) ?_ (Wk.func (Wk.ptr (k := 0) (i := 0) rfl rfl rfl rfl rfl)) ?_
  · rfl
  rfl
theorem space_does (x : TSpc) (h1 : x.cur.length < 60000) (h2 : x.num.length < 60000) : Does Tryz.prog (GL m) 69 [.agg x.cells] [] fun ae _ => ae = .ret (.agg (lspC x)) := by
  have hP := ClsParse_does m x.cur h1
  have hQ := ClsParse_does m x.num h2
  unfold lspC
  cases hE : clsF x.cur with
  | error p =>
    rw [hE] at hP
    cases hE2 : clsF x.num with
    | error p =>
      rw [hE2] at hQ
      rw [show clsP x.cur = [] by simp [clsP, hE], show clsP x.num = [] by simp [clsP, hE2]]
      refine Does.body tab Tryz.func69 rfl rfl ?_
      refine gos ?_
      intro v1
      refine gos ?_
      intro v2
      refine gos ?_
      refine CallW.pure hP rfl rfl ?_
      refine gos ?_
      refine CallW.pure hQ rfl rfl ?_
      refine gos ?_
      refine RetW.unnil1 (by simp) ?_
      rfl
    | ok c =>
      rw [hE2] at hQ
      rw [show clsP x.cur = [] by simp [clsP, hE], show clsP x.num = rgEs c by simp [clsP, hE2]]
      refine Does.body tab Tryz.func69 rfl rfl ?_
      refine gos ?_
      intro v1
      refine gos ?_
      intro v2
      refine gos ?_
      refine CallW.pure hP rfl rfl ?_
      refine gos ?_
      refine CallW.pure hQ rfl rfl ?_
      refine gos ?_
      refine RetW.unnil1 (by simp) ?_
      rfl
  | ok d =>
    rw [hE] at hP
    cases hE2 : clsF x.num with
    | error p =>
      rw [hE2] at hQ
      rw [show clsP x.cur = rgEs d by simp [clsP, hE], show clsP x.num = [] by simp [clsP, hE2]]
      refine Does.body tab Tryz.func69 rfl rfl ?_
      refine gos ?_
      intro v1
      refine gos ?_
      intro v2
      refine gos ?_
      refine CallW.pure hP rfl rfl ?_
      refine gos ?_
      refine CallW.pure hQ rfl rfl ?_
      refine gos ?_
      refine RetW.unnil1 (by simp) ?_
      rfl
    | ok c =>
      rw [hE2] at hQ
      rw [show clsP x.cur = rgEs d by simp [clsP, hE], show clsP x.num = rgEs c by simp [clsP, hE2]]
      refine Does.body tab Tryz.func69 rfl rfl ?_
      refine gos ?_
      intro v1
      refine gos ?_
      intro v2
      refine gos ?_
      refine CallW.pure hP rfl rfl ?_
      refine gos ?_
      refine CallW.pure hQ rfl rfl ?_
      refine gos ?_
      refine RetW.unnil1 (by simp) ?_
      rfl
end Go.Proofs.YtjjppmbojcgdgaaGreatDoor

namespace Go.Proofs.YtjjppmbojcgdgaaGreatDoor
open Go Go.Abs
attribute [local irreducible] DrawW CallW RetW AC Does CmpW
variable {m : Int}
theorem ShiftC_does {G : Globs} (q : CD) (mag : Int) : Does Tryz.prog G 122 [.agg q.cells, .int .i64 mag] [] fun ae _ => ae = .ret (.int .i64 (shiftC q mag)) := by
  obtain ⟨z, nb, ⟨a, b, c, d, two, N⟩⟩ := q
  refine Does.body tab Tryz.func122 rfl rfl ?_
  refine gos ?_
  intro v1
  refine gos ?_
  cases nb
  all_goals
    refine gos ?_
    refine RetW.plain (by simp) ?_
    rfl
theorem lrows_does (l : List TRow) (hl : l.length < 50000) (hT : ∀ r ∈ l, r.fits) : Does Tryz.prog (GL m) 68 [rowL l] [] fun ae _ => ae = .ret (lrL l) := by
  have hll : (l.map encR).length = l.length := by simp
  refine Does.bodyA tab Tryz.func68 rfl rfl ?_
  refine AC.step tab ?_
  refine gos ?_
  refine AC.step tab ?_
  refine gos ?_
  refine AC.own 3 228 4 rfl (by omega) fun v0 => ?_
  refine AC.cutA (fun e h => ∃ va, e = (List.replicate 3 .any ++ [.sl 0 va] ++ List.replicate 30 .any) ∧ h = [some ⟨va, 228, 4, l.map lrE⟩]) ?_ ?_
  · refine AC.step tab ?_
    refine gos ?_
    rw [hll]
    refine AC.blk ?_
    refine AC.loopA (fun f e h => ∃ i va : Nat, f + i = l.length + 1 ∧ i ≤ l.length ∧ e = (List.replicate 3 .any ++ [.sl 0 va] ++ List.replicate 4 .any ++ [.fsl (l.map encR), .int .i64 l.length, .int .i64 i] ++ List.replicate 23 .any) ∧
        h = [some ⟨va, 228, 4, (l.take i).map lrE⟩]) (l.length + 1) ⟨_, fgts, 0, v0, by omega, by omega, rfl, rfl⟩ ?_
    rintro f e h ⟨i, va, hf, hi, rfl, rfl⟩
    refine AC.step tab ?_
    refine gos ?_
    by_cases hlt : i < l.length
    · obtain ⟨x, hx⟩ : ∃ d, l[i]? = some d := ⟨_, List.getElem?_eq_getElem hlt⟩
      have htk : (l.take (i + 1)).map lrE = (l.take i).map lrE ++ [lrE x] := by
        rw [List.take_add_one, hx]; simp
      obtain ⟨t1, t2⟩ := hT x (List.mem_of_getElem? hx)
      have dB := byCpa_does (G := GL m) x.texts (by omega) 162 [] rfl cpaP (fun s => rfl) (fun y hy => compact_does y.text (t2 y hy))
      have hE : lrE x = [.int .i64 x.mag, .int .i64 (shiftC (getC (cpaB x.texts) 5) x.mag), .bool (getC (cpaB x.texts) 5).nb, .fptr (bcC CD.cells (cpaB x.texts))] := rfl
      have dG := CpaGet_does (G := GL m) (cpaB x.texts) 5
      have dS := ShiftC_does (G := GL m) (getC (cpaB x.texts) 5) x.mag
      have hal : ((l.take i).map lrE).length ≤ l.length := by rw [List.length_map, List.length_take]; omega
      refine CmpW.T ?_
      refine gos ?_
      refine AC.step tab ?_
      refine gos ?_
      refine AC.seqA ?_
      refine AC.blk ?_
      refine AC.step tab ?_
      refine gos ?_
      refine And.intro (encR_two l) (And.intro (by omega) ⟨encR x, by rw [Int.toNat_natCast]; exact map_get hx, ?_⟩)
      refine gos ?_
      intro v2
      refine gos ?_
      refine AC.step tab ?_
      refine gos ?_
      refine CallW.pure dB rfl rfl ?_
      have hB : byC cd0 cpaP x.texts = cpaB x.texts := rfl
      rw [hB]
      generalize cpaB x.texts = B at *
      refine gos ?_
      refine AC.step tab ?_
      refine gos ?_
      refine CallW.pure dG rfl rfl ?_
      obtain ⟨q, hq⟩ : ∃ q, q = getC B 5 := ⟨_, rfl⟩
      rw [← hq] at dS hE ⊢
      obtain ⟨S, hS⟩ : ∃ S, S = shiftC q x.mag := ⟨_, rfl⟩
      rw [← hS] at dS hE
      obtain ⟨z, nb, ⟨a, b, c, d, two, N⟩⟩ := q
      refine gos ?_
      intro v3
      refine gos ?_
      refine AC.wk (Wk.ptr (k := 5) (i := 1) rfl rfl rfl rfl rfl) ?_
      refine AC.wk (Wk.ptr (k := 7) (i := 2) rfl rfl rfl rfl rfl) ?_
      refine AC.go tab ?_
      refine DrawW.P (.take 0 (.take 1 (.takeF 2 (.takeF 3 (.take 4 (.takeF 5 (.take 7 (.takeF 8 (.take 9 (.take 6 (.take 10 (.take 11 (.take 12 (.take 13 .done)))))))))))))) ?_
      refine gos ?_
      refine CallW.pure dS rfl rfl ?_
      refine gos ?_
      intro v4
      (repeat (first | refine gof ?_ | refine fun (vv : Nat) => ?_))
      refine AC.go tab ?_
      refine gos ?_
      exact ⟨f - 1, _, 1, by omega, fgts, i + 1, vv, by omega, by omega, rfl, by rw [htk, hE]; rfl⟩
    · refine CmpW.N ?_
      refine gos ?_
      refine AC.step tab ?_
      refine gos ?_
      have : i = l.length := by omega
      subst this
      exact ⟨_, 1, fgts, va, rfl, by rw [List.take_length]; rfl⟩
  rintro e h ⟨va, rfl, rfl⟩
  refine AC.go tab ?_
  refine gos ?_
  refine RetW.wk (r' := lrL l) (by simp) ?_ (Wk.row (k := 0) (i := 0) (o := ⟨va, 228, 4, l.map lrE⟩) rfl rfl rfl (clLL_map (fun _ => rfl) l)) ?_
  · rfl
  rfl
end Go.Proofs.YtjjppmbojcgdgaaGreatDoor

namespace Go.Proofs.YtjjppmbojcgdgaaGreatDoor
open Go Go.Abs
set_option linter.unusedVariables false
set_option linter.unusedSimpArgs false
def hasO (l : List TTxt) : Prop := (∀ x ∈ l, 0 ≤ x.cat ∧ x.cat ≤ 5) ∧ (l.any fun x => decide (x.cat = 5)) = true
theorem cats_has {l : List TTxt} {ok : Nat → Bool} (h : catsF l ok = true) : hasO l := by
  refine ⟨cats_in h, ?_⟩
  rw [catsF, Bool.and_eq_true] at h
  have h1 := h.1
  rw [lastC] at h1
  cases hl : l.getLast? with
  | none => rw [hl] at h1; cases h1
  | some x =>
    rw [hl] at h1
    exact List.any_eq_true.2 ⟨x, List.mem_of_getLast? hl, h1⟩
theorem has_get {α : Type} (z : α) (read : List UInt8 → α) {l : List TTxt} (h : hasO l) (c : Int) : getC (byC z read l) c = read (txtF l c) := byC_get z read h.1 h.2 c
theorem fine_curs {t : TTab} (h : checkF t = 0) : Ris (t.curs.map (·.code)) ∧ ∀ c ∈ t.curs, c.names = [] ∨ hasO c.names := by
  obtain ⟨_, _, _, _, _, _, _, hC, _, _, _⟩ := check_fine h
  rw [ckCur, Bool.and_eq_true] at hC
  have hc := allB_iff.1 hC.2
  constructor
  · refine ris_of fun i x y hx hy => ?_
    rw [List.getElem?_map] at hx hy
    cases h1 : t.curs[i]? with
    | none => rw [h1] at hx; cases hx
    | some a =>
      cases h2 : t.curs[i + 1]? with
      | none => rw [h2] at hy; cases hy
      | some b =>
        rw [h1] at hx
        rw [h2] at hy
        cases hx
        cases hy
        have hl := (List.getElem?_eq_some_iff.1 h2).1
        have := hc (i + 1) hl
        simp only [curP, h2, Nat.add_sub_cancel, h1, Bool.and_eq_true, Bool.or_eq_true, decide_eq_true_eq] at this
        exact this.2.resolve_left (by omega)
  · intro c hm
    obtain ⟨i, hi, rfl⟩ := List.getElem_of_mem hm
    have hg : t.curs[i]? = some t.curs[i] := List.getElem?_eq_getElem hi
    have h1 := hc i hi
    simp only [curP, hg, Bool.and_eq_true] at h1
    have h2 := h1.1
    simp only [moneyB, Bool.and_eq_true, Bool.or_eq_true] at h2
    rcases h2.2.2.2.1 with h3 | h3
    · exact .inl (of_decide_eq_true h3)
    · exact .inr (cats_has h3)
theorem fine_units {t : TTab} (h : checkF t = 0) : Ris (t.units.map (·.name)) ∧ ∀ u ∈ t.units, hasO u.texts := by
  obtain ⟨_, _, _, _, _, _, _, _, hU, _, _⟩ := check_fine h
  rw [ckUnit, Bool.and_eq_true] at hU
  have hc := allB_iff.1 hU.2
  constructor
  · refine ris_of fun i x y hx hy => ?_
    rw [List.getElem?_map] at hx hy
    cases h1 : t.units[i]? with
    | none => rw [h1] at hx; cases hx
    | some a =>
      cases h2 : t.units[i + 1]? with
      | none => rw [h2] at hy; cases hy
      | some b =>
        rw [h1] at hx
        rw [h2] at hy
        cases hx
        cases hy
        have hl := (List.getElem?_eq_some_iff.1 h2).1
        have := hc (i + 1) hl
        simp only [untP, h2, Nat.add_sub_cancel, h1, Bool.and_eq_true, Bool.or_eq_true, decide_eq_true_eq] at this
        exact this.2.2.resolve_left (by omega)
  · intro u hm
    obtain ⟨i, hi, rfl⟩ := List.getElem_of_mem hm
    have hg : t.units[i]? = some t.units[i] := List.getElem?_eq_getElem hi
    have h1 := hc i hi
    simp only [untP, hg, Bool.and_eq_true] at h1
    exact cats_has h1.2.1
theorem fine_munit {t : TTab} (h : checkF t = 0) : hasO t.munit := by
  obtain ⟨_, _, _, _, _, _, _, _, _, hM, _⟩ := check_fine h
  exact cats_has hM
theorem fine_rows {l : List TRow} {cur : Int} (h : rowsF l cur = true) : ∀ r ∈ l, hasO r.texts := by
  intro r hr
  obtain ⟨i, hi, rfl⟩ := List.getElem_of_mem hr
  have hg : l[i]? = some l[i] := List.getElem?_eq_getElem hi
  rw [rowsF, Bool.and_eq_true] at h
  have h1 := allB_iff.1 h.2 i hi
  simp only [rowP, hg, Bool.and_eq_true] at h1
  have h2 := h1.1
  rw [rowB, Bool.and_eq_true] at h2
  exact cats_has h2.2
theorem unit_some {t : TTab} (h : checkF t = 0) {u : TUnt} (hu : u ∈ t.units) : lookM (mapG (·.name) unitV [] t.units) u.name = some (unitV u) :=
  mapG_some (fun u : TUnt => u.name) unitV t.units [] rfl hu (fun x hx e => ris_inj (fine_units h).1 x hx u hu e)
theorem unit_none {t : TTab} {s : List UInt8} (h : ∀ u ∈ t.units, u.name ≠ s) : lookM (mapG (·.name) unitV [] t.units) s = none :=
  mapG_none (fun u : TUnt => u.name) unitV s t.units [] rfl h
theorem name_some {t : TTab} (h : checkF t = 0) {c : TCur} (hc : c ∈ t.curs) (hn : c.names ≠ []) :
    lookM (mapG (·.code) curV [] (t.curs.filter fun c => decide (c.names ≠ []))) c.code = some (curV c) :=
  mapG_some (fun c : TCur => c.code) curV _ [] rfl (List.mem_filter.2 ⟨hc, by simpa using hn⟩) (fun x hx e => ris_inj (fine_curs h).1 x (List.mem_filter.1 hx).1 c hc e)
theorem name_none {t : TTab} (h : checkF t = 0) {s : List UInt8} (hs : ∀ c ∈ t.curs, c.code = s → c.names = []) :
    lookM (mapG (·.code) curV [] (t.curs.filter fun c => decide (c.names ≠ []))) s = none :=
  mapG_none (fun c : TCur => c.code) curV s _ [] rfl (fun x hx e => by
    have := (List.mem_filter.1 hx).2
    rw [hs x (List.mem_filter.1 hx).1 e] at this
    simp at this)
end Go.Proofs.YtjjppmbojcgdgaaGreatDoor

namespace Go.Proofs.YtjjppmbojcgdgaaGreatDoor
open Go Go.Abs
set_option linter.unusedVariables false
theorem checkB_0 : checkF base0 = 0 := by kernel_rfl
theorem checkB_1 : checkF base1 = 0 := by kernel_rfl
theorem checkB_2 : checkF base2 = 0 := by kernel_rfl
def fewQ (n : Nat) : Bool := Nat.ble n 40000
def txtQ (l : List TTxt) : Bool := fewQ l.length && l.all fun x => fewQ x.text.length
def rowQ (l : List TRow) : Bool := fewQ l.length && l.all fun r => txtQ r.texts
def strQ (t : TTab) : Bool := (t.dg.list ++ [t.minus, t.plus, t.percent, t.permille, t.point, t.comma, t.decimal, t.per, t.money, t.account, t.rules, t.before.cur, t.before.num, t.before.ins, t.after.cur, t.after.num, t.after.ins]).all fun s => fewQ s.length
def fitsQ (t : TTab) : Bool := strQ t && (rowQ t.short && (rowQ t.long && (rowQ t.mshort && (txtQ t.munit && ((fewQ t.curs.length && t.curs.all fun c => fewQ c.code.length && (fewQ c.symbol.length && (fewQ c.narrow.length && txtQ c.names))) && (fewQ t.units.length && t.units.all fun u => fewQ u.name.length && txtQ u.texts))))))
theorem fewQ_lt {n : Nat} (h : fewQ n = true) : n < 50000 := by have := Nat.le_of_ble_eq_true h; omega
theorem txtQ_fits {l : List TTxt} (h : txtQ l = true) : txtFits l := by
  rw [txtQ, Bool.and_eq_true] at h
  exact ⟨fewQ_lt h.1, fun x hx => fewQ_lt (List.all_eq_true.1 h.2 x hx)⟩
theorem rowQ_fits {l : List TRow} (h : rowQ l = true) : l.length < 50000 ∧ ∀ r ∈ l, r.fits := by
  rw [rowQ, Bool.and_eq_true] at h
  refine ⟨fewQ_lt h.1, fun r hr => ?_⟩
  have := txtQ_fits (List.all_eq_true.1 h.2 r hr)
  exact ⟨by have := this.1; omega, fun x hx => by have := this.2 x hx; omega⟩
theorem fitsQ_fits {t : TTab} (h : fitsQ t = true) : t.fits := by
  simp only [fitsQ, Bool.and_eq_true] at h
  obtain ⟨hS, hs, hl, hm, hu, ⟨hc, hcs⟩, hn, hns⟩ := h
  have st := fun s hs => fewQ_lt (List.all_eq_true.1 hS s hs)
  refine ⟨fun x hx => st x (List.mem_append_left _ hx), st _ (by simp), st _ (by simp), st _ (by simp), st _ (by simp), st _ (by simp), st _ (by simp), st _ (by simp), st _ (by simp), st _ (by simp), st _ (by simp), st _ (by simp), rowQ_fits hs, rowQ_fits hl, rowQ_fits hm,
    ⟨fewQ_lt hc, fun c hm => ?_⟩, ⟨fewQ_lt hn, fun u hm => ?_⟩, txtQ_fits hu, ⟨st _ (by simp), st _ (by simp), st _ (by simp)⟩, ⟨st _ (by simp), st _ (by simp), st _ (by simp)⟩⟩
  · have := List.all_eq_true.1 hcs c hm
    simp only [Bool.and_eq_true] at this
    exact ⟨fewQ_lt this.1, fewQ_lt this.2.1, fewQ_lt this.2.2.1, txtQ_fits this.2.2.2⟩
  · have := List.all_eq_true.1 hns u hm
    simp only [Bool.and_eq_true] at this
    exact ⟨fewQ_lt this.1, txtQ_fits this.2⟩
theorem fitsB_0 : base0.fits := fitsQ_fits (by kernel_rfl)
theorem fitsB_1 : base1.fits := fitsQ_fits (by kernel_rfl)
theorem fitsB_2 : base2.fits := fitsQ_fits (by kernel_rfl)
theorem belB_0 : base0.below = true := by kernel_rfl
theorem belB_1 : base1.below = true := by kernel_rfl
theorem belB_2 : base2.below = true := by kernel_rfl
theorem encB_0 : Nat.ble (encF base0).length 65536 = true := by kernel_rfl
theorem encB_1 : Nat.ble (encF base1).length 65536 = true := by kernel_rfl
theorem encB_2 : Nat.ble (encF base2).length 65536 = true := by kernel_rfl
theorem baseF_three (n : Int) : baseF n = base0 ∨ baseF n = base1 ∨ baseF n = base2 := by
  unfold baseF
  split
  · exact .inr (.inl rfl)
  split
  · exact .inr (.inr rfl)
  · exact .inl rfl
theorem checkB (n : Int) : checkF (baseF n) = 0 := by
  rcases baseF_three n with h | h | h <;> rw [h]
  · exact checkB_0
  · exact checkB_1
  · exact checkB_2
theorem fitsB (n : Int) : (baseF n).fits := by
  rcases baseF_three n with h | h | h <;> rw [h]
  · exact fitsB_0
  · exact fitsB_1
  · exact fitsB_2
theorem belB (n : Int) : (baseF n).below = true := by
  rcases baseF_three n with h | h | h <;> rw [h]
  · exact belB_0
  · exact belB_1
  · exact belB_2
theorem encB_le (n : Int) : (encF (baseF n)).length ≤ 65536 := by
  rcases baseF_three n with h | h | h <;> rw [h]
  · exact Nat.le_of_ble_eq_true encB_0
  · exact Nat.le_of_ble_eq_true encB_1
  · exact Nat.le_of_ble_eq_true encB_2
end Go.Proofs.YtjjppmbojcgdgaaGreatDoor
