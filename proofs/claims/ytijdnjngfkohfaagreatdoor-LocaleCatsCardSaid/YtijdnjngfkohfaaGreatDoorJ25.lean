/- Money, spacings; a table's checks. -/
import Derived.Test.YtijdnjngfkohfaaGreatDoorJ23
import Derived.Test.YtijdnjngfkohfaaGreatDoorJ24
import Derived.Test.YtijdnjngfkohfaaGreatDoorJ22
set_option linter.unusedVariables false
set_option linter.unusedSimpArgs false
set_option maxRecDepth 100000
set_option maxHeartbeats 4000000

namespace Go.Proofs.YtijdnjngfkohfaaGreatDoor
open Go Go.Abs
attribute [local irreducible] DrawW CallW RetW AC Does CmpW
variable {G : Globs}
def tlO (vl : Nat) (l : List TTxt) : AObj := ⟨vl, 58, 1, [[txtL l]]⟩
def fnO (vo : Nat) (fid : FuncId) (va : Nat) (cs : List AV) : AObj := ⟨vo, 175, 1, [[.func (.func fid) [] [.ptr 0 va 0 0, .fptr cs]]]⟩
theorem cats1S_does (l : List TTxt) (hl : l.length < 100000) (i : Nat) (x : TTxt) (hx : l[i]? = some x) (vl vo va : Nat) (fid : FuncId) (cs : List AV) (A A' : AObj) (hA : closedLL A.es = true) (hA' : closedLL A'.es = true) (r : Bool)
    (hok : catG l i = true → Does Tryz.prog G fid ([] ++ [.str x.text] ++ [.ptr 0 va 0 0, .fptr cs]) [some A] fun ae O => ae = .ret (.bool r) ∧ O = [some A']) (hno : catG l i = false → A' = A) :
    Does Tryz.prog G 170 ([] ++ [.int .i64 (i : Nat), .agg (encT x)] ++ [.ptr 1 vl 0 0, .ptr 2 vo 0 0]) [some A, some (tlO vl l), some (fnO vo fid va cs)] fun ae O => ae = .ret (.bool (catG l i && r)) ∧ O = [some A', some (tlO vl l), some (fnO vo fid va cs)] := by
  have hlt := (List.getElem?_eq_some_iff.1 hx).1
  have hG : catG l i = (decide (0 ≤ x.cat) && (decide (i = 0) || match l[i - 1]? with
    | some y => decide (y.cat < x.cat)
    | none => false)) := by
    unfold catG; rw [hx]; rfl
  refine Does.body tab Tryz.func170 rfl rfl ?_
  refine gos ?_
  intro v1
  refine gos ?_
  refine DrawW.L ?_
  refine gos ?_
  by_cases h0 : 0 ≤ x.cat
  case neg =>
    have hf : catG l i = false := by rw [hG]; simp [h0]
    refine CmpW.N ?_
    refine gos ?_
    refine RetW.plain (by simp) ?_
    rw [hf, hno hf]
    exact ⟨rfl, rfl⟩
  refine CmpW.T ?_
  refine gos ?_
  by_cases hi : i = 0
  · have ht : catG l i = true := by rw [hG]; simp [h0, hi]
    refine CmpW.T ?_
    refine gos ?_
    refine CallW.meth 0 (hok ht) rfl rfl rfl hA hA' rfl ?_
    refine gos ?_
    refine RetW.plain (by simp) ?_
    rw [ht]
    exact ⟨rfl, rfl⟩
  refine CmpW.N ?_
  refine gos ?_
  obtain ⟨y, hy⟩ : ∃ y, l[i - 1]? = some y := ⟨_, List.getElem?_eq_getElem (by omega)⟩
  rw [show (i : Int) - 1 = ((i - 1 : Nat) : Int) by omega]
  refine And.intro (encT_two l) (And.intro (by omega) ⟨encT y, map_get hy, ?_⟩)
  refine gos ?_
  by_cases hc : y.cat < x.cat
  · have ht : catG l i = true := by rw [hG, hy]; simp [h0, hc]
    refine CmpW.T ?_
    refine gos ?_
    refine CallW.meth 0 (hok ht) rfl rfl rfl hA hA' rfl ?_
    refine gos ?_
    refine RetW.plain (by simp) ?_
    rw [ht]
    exact ⟨rfl, rfl⟩
  · have hf : catG l i = false := by rw [hG, hy]; simp [h0, hi, hc]
    refine CmpW.N ?_
    refine gos ?_
    refine RetW.plain (by simp) ?_
    rw [hf, hno hf]
    exact ⟨rfl, rfl⟩
theorem closedLL_inside {n : Nat} {es : List (List AV)} (h : closedLL es = true) : insideLL n es = true := insideLL_closed _ _ h
theorem catsS_does (l : List TTxt) (hl : l.length < 100000) (va : Nat) (fid : FuncId) (cs : List AV) (A : Nat → AObj) (hA : ∀ i, closedLL (A i).es = true) (ok : Nat → Bool)
    (hok : ∀ (i : Nat) (x : TTxt), l[i]? = some x → catG l i = true → Does Tryz.prog G fid ([] ++ [.str x.text] ++ [.ptr 0 va 0 0, .fptr cs]) [some (A i)] fun ae O => ae = .ret (.bool (ok i)) ∧ O = [some (A (i + 1))])
    (hno : ∀ i, catG l i = false → A (i + 1) = A i) :
    Does Tryz.prog G 98 [txtL l, .func (.func fid) [] [.ptr 0 va 0 0, .fptr cs]] [some (A 0)] fun ae O => ae = .ret (.bool (catsF l ok)) ∧ ∃ k, k ≤ l.length ∧ O = [some (A k)] ∧ (catsF l ok = true → k = l.length) := by
  have ll : (l.map encT).length = l.length := by simp
  refine Does.bodyA tab Tryz.func98 rfl rfl ?_
  refine AC.step tab ?_
  refine gos ?_
  intro v1
  refine gos ?_
  intro v2
  refine gos ?_
  refine AC.step tab ?_
  refine gos ?_
  rw [ll]
  by_cases h0 : l.length = 0
  · have h0' : l = [] := List.eq_nil_of_length_eq_zero h0
    refine CmpW.T ?_
    refine gos ?_
    refine RetW.plain (by simp) ?_
    subst h0'
    exact ⟨rfl, 0, by omega, rfl, fun _ => rfl⟩
  refine CmpW.N ?_
  refine gos ?_
  obtain ⟨y, hy⟩ : ∃ y, l[l.length - 1]? = some y := ⟨_, List.getElem?_eq_getElem (by omega)⟩
  rw [ll, show (l.length : Int) - 1 = ((l.length - 1 : Nat) : Int) by omega]
  refine gos ?_
  refine And.intro (encT_two l) (And.intro (by omega) ⟨encT y, map_get hy, ?_⟩)
  refine gos ?_
  have hL := last_get hy
  by_cases h5 : y.cat = 5
  case neg =>
    have hC : catsF l ok = false := by rw [catsF, hL]; simp [h5]
    refine CmpW.t (by simpa using h5) ?_
    refine gos ?_
    refine RetW.plain (by simp) ?_
    rw [hC]
    exact ⟨rfl, 0, by omega, rfl, fun h => by cases h⟩
  have hC : catsF l ok = allB (fun i => catG l i && ok i) l.length := by rw [catsF, hL]; simp [h5]
  refine CmpW.f (by simpa using h5) ?_
  refine gos ?_
  refine AC.go tab ?_
  refine gos ?_
  have dE := evS_does (G := G) l (fun i => catG l i && ok i) A 170 v1 v2 (tlO v1 l) (fnO v2 fid va cs) rfl rfl hl (fun i => closedLL_inside (hA i)) fun i x hx _ => cats1S_does l hl i x hx v1 v2 va fid cs (A i) (A (i + 1)) (hA i) (hA (i + 1)) (ok i) (fun h => hok i x hx h) (fun h => hno i h)
  refine CallW.fst 3 (by simp) dE rfl (by simp [insideO, closedLL_inside (hA 0), insideLL, insideL, inside, tlO, fnO, txtL]) ?_
  rintro ae O ⟨rfl, k, hk, rfl, hkl⟩ _
  refine ⟨rfl, by simp [insideO, closedLL_inside (hA k), insideLL, insideL, inside, tlO, fnO, txtL], ?_⟩
  refine gos ?_
  refine RetW.plain (by simp) ?_
  rw [hC]
  exact ⟨rfl, k, hk, rfl, hkl⟩
def shiftF (q : FS) (mag : Int) : Int := if q.nb then 0 else IntKind.i64.wrap (IntKind.i64.wrap (mag - q.z) + 1)
def FS.fit (q : FS) : Prop := q.x = ⟨.nils, .nils, .nils, .nils⟩ ∨ ∃ v : PatV, q.x = affV v
theorem fs0_fit : fs0.fit := .inl rfl
theorem rowS_fit {q : FS} (h : q.fit) (s : List UInt8) : (rowS q s).fit := by
  unfold rowS
  split
  · exact h
  · split
    · exact h
    · exact .inr ⟨_, rfl⟩
theorem fit_ok {q : FS} (h : q.fit) : q.ok := by
  unfold FS.ok
  rcases h with h | ⟨v, h⟩
  · rw [h]; exact ⟨rfl, rfl, rfl, rfl⟩
  · rw [h]; exact fsV_ok v
theorem Shift_does (q : FS) (hq : q.fit) (mag : Int) : Does Tryz.prog G 119 [.agg q.cells, .int .i64 mag] [] fun ae _ => ae = .ret (.int .i64 (shiftF q mag)) := by
  obtain ⟨z, nb, x, two, N⟩ := q
  have h3 : x = ⟨.nils, .nils, .nils, .nils⟩ ∨ (∃ a b, x = ⟨encL a, encL b, .nils, .nils⟩) ∨ (∃ a b c d, x = ⟨encL a, encL b, encL c, encL d⟩) := by
    rcases hq with h | ⟨⟨p, q, p', q', two, N⟩, h⟩
    · exact .inl h
    · simp only at h
      cases two
      · exact .inr (.inl ⟨p, q, h⟩)
      · exact .inr (.inr ⟨p, q, p', q', h⟩)
  clear hq
  refine Does.body tab Tryz.func119 rfl rfl ?_
  rcases h3 with rfl | ⟨a, b, rfl⟩ | ⟨a, b, c, d, rfl⟩ <;> cases nb
  all_goals
    refine gos ?_
    intro v1
    refine gos ?_
    refine RetW.plain (by simp) ?_
    rfl
def rowA (cur : Int) (l : List TTxt) : Nat → FS
  | 0 => fs0
  | i + 1 => if catG l i then (match l[i]? with
      | some x => rowS (rowA cur l i) x.text
      | none => rowA cur l i) else rowA cur l i
theorem rowA_fit (cur : Int) (l : List TTxt) : ∀ i, (rowA cur l i).fit
  | 0 => fs0_fit
  | i + 1 => by
    unfold rowA
    split
    · split
      · exact rowS_fit (rowA_fit cur l i) _
      · exact rowA_fit cur l i
    · exact rowA_fit cur l i
def rowK (cur : Int) (l : List TTxt) (i : Nat) : Bool := match l[i]? with
  | some x => rowR (rowA cur l i) cur x.text
  | none => false
def rowB (cur : Int) (r : TRow) : Bool := inF r.mag 0 100 && catsF r.texts (rowK cur r.texts)
def rowH (cur : Int) (r : TRow) : Int := shiftF (rowA cur r.texts r.texts.length) r.mag
theorem row_does (m : Int) (r : TRow) (cur : Int) (hl : r.texts.length < 100000) (ht : ∀ x ∈ r.texts, x.text.length < 100000) :
    Does Tryz.prog (GL m) 166 [.agg (encR r), .int .i64 cur] [] fun ae _ => ∃ n, ae = .ret (.tuple [.int .i64 n, .bool (rowB cur r)]) ∧ (rowB cur r = true → n = rowH cur r) := by
  refine Does.bodyA tab Tryz.func166 rfl rfl ?_
  refine AC.step tab ?_
  refine gos ?_
  intro v1
  refine gos ?_
  intro v2
  refine gos ?_
  refine AC.wk (Wk.ptr (k := 2) (i := 0) rfl rfl rfl rfl rfl) ?_
  refine AC.wk (Wk.ptr (k := 3) (i := 1) rfl rfl rfl rfl rfl) ?_
  refine AC.step tab ?_
  refine gos ?_
  intro v3
  refine gos ?_
  refine AC.cutF tab (fun e h => ∃ q : FS, q.fit ∧ (rowB cur r = true → q = rowA cur r.texts r.texts.length) ∧ e = [.any, .any, .fptr (encR r), .fptr [.int .i64 cur], .any, .any, .ptr 2 v3 0 0, .bool (rowB cur r)] ++ List.replicate 14 .any ∧ h = [none, none, some (fsO v3 q)]) ?_ ?_
  · refine gos ?_
    refine CallW.pure (vin_does r.mag 0 100) rfl rfl ?_
    cases hin : inF r.mag 0 100 with
    | false =>
      have hB : rowB cur r = false := by simp [rowB, hin]
      refine gos ?_
      rw [hB]
      exact ⟨_, 3, fgts, fs0, fs0_fit, fun h => by (cases h), rfl, rfl⟩
    | true =>
      have hB : rowB cur r = catsF r.texts (rowK cur r.texts) := by simp [rowB, hin]
      refine gos ?_
      have dC := catsS_does (G := GL m) r.texts hl v3 214 [.int .i64 cur] (fun i => fsO v3 (rowA cur r.texts i)) (fun i => fsO_closed (fit_ok (rowA_fit cur r.texts i))) (rowK cur r.texts)
        (fun i x hx hg => by
          have h1 := row1_does m (rowA cur r.texts i) (fit_ok (rowA_fit cur r.texts i)) v3 cur x.text (ht x (List.mem_of_getElem? hx))
          have e1 : rowK cur r.texts i = rowR (rowA cur r.texts i) cur x.text := by simp [rowK, hx]
          have e2 : rowA cur r.texts (i + 1) = rowS (rowA cur r.texts i) x.text := by simp [rowA, hg, hx]
          simp only [e1, e2]
          exact h1)
        (fun i hg => by simp [rowA, hg])
      refine CallW.of1 2 dC rfl (fsO_closed fs0_ok) rfl rfl ?_
      rintro ae O ⟨rfl, k, hk, rfl, hkl⟩
      refine ⟨_, rfl, fsO_closed (fit_ok (rowA_fit cur r.texts k)), rfl, ?_⟩
      refine gos ?_
      rw [hB]
      exact ⟨_, 3, fgts, rowA cur r.texts k, rowA_fit cur r.texts k, fun h => by rw [hkl h], rfl, rfl⟩
  rintro e h ⟨q, hq, hqe, rfl, rfl⟩
  refine AC.go tab ?_
  refine gos ?_
  refine CallW.pure (Shift_does q hq r.mag) ?_ rfl ?_
  · obtain ⟨h1, h2, h3, h4⟩ := fit_ok hq
    simp [closedL, closed, h1, h2, h3, h4]
  refine gos ?_
  refine RetW.plain (by simp) ?_
  exact ⟨_, rfl, fun h => by rw [hqe h]; rfl⟩
end Go.Proofs.YtijdnjngfkohfaaGreatDoor

namespace Go.Proofs.YtijdnjngfkohfaaGreatDoor
open Go Go.Abs
attribute [local irreducible] DrawW CallW RetW AC Does CmpW
def rowLast (cur : Int) (l : List TRow) : Nat → Int
  | 0 => 0
  | i + 1 => match l[i]? with
    | some x => rowH cur x
    | none => 0
def rowP (cur : Int) (l : List TRow) (i : Nat) : Bool := match l[i]? with
  | some x => rowB cur x && (decide (rowLast cur l i ≤ rowH cur x) && (decide (i = 0) || match l[i - 1]? with
    | some y => decide (y.mag < x.mag)
    | none => false))
  | none => false
def rowsF (l : List TRow) (cur : Int) : Bool := decide (l.length ≤ 16) && allB (rowP cur l) l.length
def TRow.fits (r : TRow) : Prop := r.texts.length < 100000 ∧ ∀ x ∈ r.texts, x.text.length < 100000
def nO (ver : Nat) (n : Int) : AObj := ⟨ver, 3, 1, [[.int .i64 n]]⟩
theorem rows1_does (m : Int) (l : List TRow) (cur : Int) (hl : l.length < 100000) (hf : ∀ r ∈ l, r.fits) (ver : Nat) (i : Nat) (x : TRow) (hx : l[i]? = some x) :
    Does Tryz.prog (GL m) 165 ([] ++ [.int .i64 (i : Nat), .agg (encR x)] ++ [.fptr [.int .i64 cur], .ptr 0 ver 0 0, .fptr [rowL l]]) [some (nO ver (rowLast cur l i))] fun ae O =>
      ae = .ret (.bool (rowP cur l i)) ∧ ∃ o, O = [some o] ∧ closedLL o.es = true ∧ (rowP cur l i = true → o = nO ver (rowLast cur l (i + 1))) := by
  have hlt := (List.getElem?_eq_some_iff.1 hx).1
  have hfx := hf x (List.mem_of_getElem? hx)
  have hP : rowP cur l i = (rowB cur x && (decide (rowLast cur l i ≤ rowH cur x) && (decide (i = 0) || match l[i - 1]? with
    | some y => decide (y.mag < x.mag)
    | none => false))) := by
    unfold rowP; rw [hx]
  have hN : rowLast cur l (i + 1) = rowH cur x := by simp [rowLast, hx]
  rw [hN]
  obtain ⟨last, hlast⟩ : ∃ n, n = rowLast cur l i := ⟨_, rfl⟩
  rw [← hlast] at hP ⊢
  refine Does.bodyA tab Tryz.func165 rfl rfl ?_
  refine AC.step tab ?_
  refine gos ?_
  intro v1
  refine gos ?_
  refine AC.step tab ?_
  refine gos ?_
  refine CallW.of0 (row_does m x cur hfx.1 hfx.2) rfl ?_
  rintro ae ⟨n, rfl, hn⟩
  refine ⟨rfl, ?_⟩
  refine gos ?_
  refine AC.cutF tab (fun e h => e = [.any, .any, .any, .ptr 0 ver 0 0, .any, .any, .any, .any, .int .i64 n, .bool (rowP cur l i)] ++ List.replicate 29 .any ∧ h = [some (nO ver last)]) ?_ ?_
  · refine gos ?_
    refine DrawW.L ?_
    cases hB : rowB cur x with
    | false =>
      have hp : rowP cur l i = false := by rw [hP, hB]; rfl
      refine gos ?_
      rw [hp]
      exact ⟨_, 1, fgts, rfl, rfl⟩
    | true =>
    have hn2 := hn hB
    subst hn2
    rw [hB, Bool.true_and] at hP
    refine gos ?_
    by_cases h1 : last ≤ rowH cur x
    case neg =>
      have hp : rowP cur l i = false := by rw [hP]; simp [h1]
      refine CmpW.N ?_
      refine gos ?_
      rw [hp]
      exact ⟨_, 1, fgts, rfl, rfl⟩
    refine CmpW.T ?_
    refine gos ?_
    by_cases h2 : i = 0
    · have hp : rowP cur l i = true := by rw [hP]; simp [h1, h2]
      refine CmpW.T ?_
      refine gos ?_
      rw [hp]
      exact ⟨_, 1, fgts, rfl, rfl⟩
    refine CmpW.N ?_
    refine gos ?_
    obtain ⟨y, hy⟩ : ∃ y, l[i - 1]? = some y := ⟨_, List.getElem?_eq_getElem (by omega)⟩
    rw [hy] at hP
    rw [show (i : Int) - 1 = ((i - 1 : Nat) : Int) by omega]
    refine And.intro (encR_two l) (And.intro (by omega) ⟨encR y, map_get hy, ?_⟩)
    refine gos ?_
    refine CmpW.s ?_
    refine gos ?_
    have hp : rowP cur l i = decide (x.mag > y.mag) := by rw [hP]; simp [h1, h2]
    rw [hp]
    exact ⟨_, 1, fgts, rfl, rfl⟩
  rintro e h ⟨rfl, rfl⟩
  refine AC.step tab ?_
  refine gos ?_
  refine AC.go tab ?_
  refine gos ?_
  refine RetW.plain (by simp) ?_
  refine ⟨rfl, _, rfl, rfl, fun h => ?_⟩
  have hB : rowB cur x = true := by rw [hP] at h; cases hb : rowB cur x with
    | true => rfl
    | false => rw [hb] at h; cases h
  rw [hn hB]
  rfl
theorem rows_does (m : Int) (l : List TRow) (cur : Int) (hl : l.length < 100000) (hf : ∀ r ∈ l, r.fits) :
    Does Tryz.prog (GL m) 90 [rowL l, .int .i64 cur] [] fun ae _ => ae = .ret (.bool (rowsF l cur)) := by
  have ll : (l.map encR).length = l.length := by simp
  refine Does.bodyA tab Tryz.func90 rfl rfl ?_
  refine AC.step tab ?_
  refine gos ?_
  intro v1
  refine gos ?_
  intro v2
  refine gos ?_
  refine AC.wk (Wk.ptr (k := 2) (i := 0) rfl rfl rfl rfl rfl) ?_
  refine AC.wk (Wk.ptr (k := 3) (i := 1) rfl rfl rfl rfl rfl) ?_
  refine AC.step tab ?_
  refine gos ?_
  intro v3
  refine gos ?_
  refine AC.go tab ?_
  refine gos ?_
  rw [ll]
  by_cases h16 : l.length ≤ 16
  · refine CmpW.T ?_
    refine gos ?_
    have dE := evR_does (G := GL m) l (rowP cur l) (fun i => nO v3 (rowLast cur l i)) 165 [.int .i64 cur] [rowL l] v3 hl (fun i => rfl) fun i x hx _ => rows1_does m l cur hl hf v3 i x hx
    refine CallW.of1 2 dE rfl rfl rfl rfl ?_
    rintro ae O ⟨rfl, o, rfl, ho⟩
    refine ⟨o, rfl, ho, rfl, ?_⟩
    refine gos ?_
    refine RetW.plain (by simp) ?_
    simp [rowsF, h16]
  · refine CmpW.N ?_
    refine gos ?_
    refine RetW.plain (by simp) ?_
    simp [rowsF, h16]
end Go.Proofs.YtijdnjngfkohfaaGreatDoor

namespace Go.Proofs.YtijdnjngfkohfaaGreatDoor
open Go Go.Abs
attribute [local irreducible] DrawW CallW RetW AC Does CmpW
def nameK (l : List TTxt) (i : Nat) : Bool := match l[i]? with
  | some x => nameF x.text
  | none => false
def plcK (n : Int) (l : List TTxt) (i : Nat) : Bool := match l[i]? with
  | some x => plcOk n x.text
  | none => false
def txtFits (l : List TTxt) : Prop := l.length < 50000 ∧ ∀ x ∈ l, x.text.length < 50000
theorem catsName_does (m : Int) (l : List TTxt) (h : txtFits l) : Does Tryz.prog (GL m) 98 [txtL l, .func (.func 81) [] []] [] fun ae _ => ae = .ret (.bool (catsF l (nameK l))) :=
  cats_does l (by have := h.1; omega) 81 [] rfl (nameK l) fun i x hx => by
    have e1 : nameK l i = nameF x.text := by simp [nameK, hx]
    have h2 := h.2 x (List.mem_of_getElem? hx)
    rw [e1]
    exact vname_does m x.text (by omega)
theorem catsPlc_does (m : Int) (n : Int) (hn : -9223372036854775808 ≤ n ∧ n ≤ 9223372036854775807) (l : List TTxt) (h : txtFits l) : Does Tryz.prog (GL m) 98 [txtL l, plcV n] [] fun ae _ => ae = .ret (.bool (catsF l (plcK n l))) :=
  cats_does l (by have := h.1; omega) 171 [.fptr [.int .i64 n]] rfl (plcK n l) fun i x hx => by
    have e1 : plcK n l i = plcOk n x.text := by simp [plcK, hx]
    have h2 := h.2 x (List.mem_of_getElem? hx)
    rw [e1]
    exact places1_does m x.text n (by omega) hn
def moneyB (c : TCur) : Bool := codeF c.code && (maybeF c.symbol && (maybeF c.narrow && ((decide (c.names = []) || catsF c.names (nameK c.names)) && (inF c.digits 0 20 && (inF c.cashDigits 0 20 && (inF c.inc 0 1000000000 && inF c.cashInc 0 1000000000))))))
structure TCur.fits (c : TCur) : Prop where
  code : c.code.length < 50000
  symbol : c.symbol.length < 50000
  narrow : c.narrow.length < 50000
  names : txtFits c.names
theorem money_does (m : Int) (c : TCur) (hc : c.fits) : Does Tryz.prog (GL m) 94 [.agg (encCu c)] [] fun ae _ => ae = .ret (.bool (moneyB c)) := by
  obtain ⟨hf1, hf2, hf3, hf4⟩ := hc
  have ll : (c.names.map encT).length = c.names.length := by simp
  refine Does.bodyA tab Tryz.func94 rfl rfl ?_
  refine AC.step tab ?_
  refine gos ?_
  intro v1
  refine gos ?_
  refine AC.wk (Wk.ptr (k := 1) (i := 0) rfl rfl rfl rfl rfl) ?_
  refine AC.go tab ?_
  refine gos ?_
  refine CallW.pure (code_does c.code (by omega)) rfl rfl ?_
  cases h0 : codeF c.code with
  | false =>
    refine gos ?_
    refine RetW.plain (by simp) ?_
    simp [moneyB, h0]
  | true =>
  refine gos ?_
  refine CallW.pure (maybe_does m c.symbol (by omega)) rfl rfl ?_
  cases h1 : maybeF c.symbol with
  | false =>
    refine gos ?_
    refine RetW.plain (by simp) ?_
    simp [moneyB, h0, h1]
  | true =>
  refine gos ?_
  refine CallW.pure (maybe_does m c.narrow (by omega)) rfl rfl ?_
  cases h2 : maybeF c.narrow with
  | false =>
    refine gos ?_
    refine RetW.plain (by simp) ?_
    simp [moneyB, h0, h1, h2]
  | true =>
  refine gos ?_
  rw [ll]
  by_cases h3 : c.names = []
  · refine CmpW.t (by simp [h3]) ?_
    refine gos ?_
    refine CallW.pure (vin_does c.digits 0 20) rfl rfl ?_
    cases h4 : inF c.digits 0 20 with
    | false =>
      refine gos ?_
      refine RetW.plain (by simp) ?_
      simp [moneyB, h0, h1, h2, h3, h4]
    | true =>
    refine gos ?_
    refine CallW.pure (vin_does c.cashDigits 0 20) rfl rfl ?_
    cases h5 : inF c.cashDigits 0 20 with
    | false =>
      refine gos ?_
      refine RetW.plain (by simp) ?_
      simp [moneyB, h0, h1, h2, h3, h4, h5]
    | true =>
    refine gos ?_
    refine CallW.pure (vin_does c.inc 0 1000000000) rfl rfl ?_
    cases h6 : inF c.inc 0 1000000000 with
    | false =>
      refine gos ?_
      refine RetW.plain (by simp) ?_
      simp [moneyB, h0, h1, h2, h3, h4, h5, h6]
    | true =>
    refine gos ?_
    refine CallW.pure (vin_does c.cashInc 0 1000000000) rfl rfl ?_
    refine gos ?_
    refine RetW.plain (by simp) ?_
    simp [moneyB, h0, h1, h2, h3, h4, h5, h6]
  · have h3' : ¬ c.names.length = 0 := fun h => h3 (List.eq_nil_of_length_eq_zero h)
    refine CmpW.f (by simp; exact h3) ?_
    refine gos ?_
    refine CallW.pure (catsName_does m c.names hf4) rfl rfl ?_
    cases h7 : catsF c.names (nameK c.names) with
    | false =>
      refine gos ?_
      refine RetW.plain (by simp) ?_
      simp [moneyB, h0, h1, h2, h3, h7]
    | true =>
    refine gos ?_
    refine CallW.pure (vin_does c.digits 0 20) rfl rfl ?_
    cases h4 : inF c.digits 0 20 with
    | false =>
      refine gos ?_
      refine RetW.plain (by simp) ?_
      simp [moneyB, h0, h1, h2, h3, h7, h4]
    | true =>
    refine gos ?_
    refine CallW.pure (vin_does c.cashDigits 0 20) rfl rfl ?_
    cases h5 : inF c.cashDigits 0 20 with
    | false =>
      refine gos ?_
      refine RetW.plain (by simp) ?_
      simp [moneyB, h0, h1, h2, h3, h7, h4, h5]
    | true =>
    refine gos ?_
    refine CallW.pure (vin_does c.inc 0 1000000000) rfl rfl ?_
    cases h6 : inF c.inc 0 1000000000 with
    | false =>
      refine gos ?_
      refine RetW.plain (by simp) ?_
      simp [moneyB, h0, h1, h2, h3, h7, h4, h5, h6]
    | true =>
    refine gos ?_
    refine CallW.pure (vin_does c.cashInc 0 1000000000) rfl rfl ?_
    refine gos ?_
    refine RetW.plain (by simp) ?_
    simp [moneyB, h0, h1, h2, h3, h7, h4, h5, h6]
def spcOk (s : List UInt8) : Bool := match clsF s with
  | .ok c => decide (c.length ≤ 60)
  | .error _ => false
def spcB (x : TSpc) : Bool := spcOk x.cur && (spcOk x.num && maybeF x.ins)
structure TSpc.fits (x : TSpc) : Prop where
  cur : x.cur.length < 50000
  num : x.num.length < 50000
  ins : x.ins.length < 50000
theorem spacing_does (m : Int) (x : TSpc) (hx : x.fits) : Does Tryz.prog (GL m) 102 [.agg x.cells] [] fun ae _ => ae = .ret (.bool (spcB x)) := by
  obtain ⟨h1, h2, h3⟩ := hx
  have dC := ClsParse_does m x.cur (by omega)
  have dN := ClsParse_does m x.num (by omega)
  refine Does.bodyA tab Tryz.func102 rfl rfl ?_
  refine AC.step tab ?_
  refine gos ?_
  intro v1
  refine gos ?_
  refine AC.wk (Wk.ptr (k := 1) (i := 0) rfl rfl rfl rfl rfl) ?_
  refine AC.cutF tab (fun e h => spcOk x.cur = true ∧ spcOk x.num = true ∧ e = [.any, .fptr x.cells] ++ List.replicate 33 .any ∧ h = []) ?_ ?_
  · (repeat (first | refine gof ?_ | refine fun (vv : Nat) => ?_))
    refine AC.rounds tab 3 ?_
    refine gos ?_
    refine And.intro (And.intro (of_decide_eq_true rfl) (of_decide_eq_true rfl)) ?_
    (repeat (first | refine gof ?_ | refine fun (vv : Nat) => ?_))
    cases hE : clsF x.cur with
    | error p =>
      rw [hE] at dC
      refine CallW.pure dC rfl rfl ?_
      (repeat (first | refine gof ?_ | refine fun (vv : Nat) => ?_))
      refine RetW.plain (by simp) ?_
      simp [spcB, spcOk, hE]
    | ok c =>
    rw [hE] at dC
    refine CallW.pure dC rfl rfl ?_
    (repeat (first | refine gof ?_ | refine fun (vv : Nat) => ?_))
    rw [rgEs_len]
    by_cases h60 : c.length ≤ 60
    case neg =>
      refine CmpW.T ?_
      refine gos ?_
      refine RetW.plain (by simp) ?_
      simp [spcB, spcOk, hE, h60]
    have k1 : spcOk x.cur = true := by simp [spcOk, hE, h60]
    refine CmpW.N ?_
    refine gos ?_
    refine And.intro (And.intro (of_decide_eq_true rfl) (of_decide_eq_true rfl)) ?_
    (repeat (first | refine gof ?_ | refine fun (vv : Nat) => ?_))
    cases hE2 : clsF x.num with
    | error p =>
      rw [hE2] at dN
      refine CallW.pure dN rfl rfl ?_
      (repeat (first | refine gof ?_ | refine fun (vv : Nat) => ?_))
      refine RetW.plain (by simp) ?_
      simp [spcB, spcOk, hE2]
    | ok d =>
    rw [hE2] at dN
    refine CallW.pure dN rfl rfl ?_
    (repeat (first | refine gof ?_ | refine fun (vv : Nat) => ?_))
    rw [rgEs_len]
    by_cases h61 : d.length ≤ 60
    case neg =>
      refine CmpW.T ?_
      refine gos ?_
      refine RetW.plain (by simp) ?_
      simp [spcB, spcOk, hE2, h61]
    have k2 : spcOk x.num = true := by simp [spcOk, hE2, h61]
    refine CmpW.N ?_
    refine gos ?_
    exact ⟨_, 0, fgts, k1, k2, rfl, rfl⟩
  rintro e h ⟨k1, k2, rfl, rfl⟩
  refine AC.go tab ?_
  refine gos ?_
  refine CallW.pure (maybe_does m x.ins (by omega)) rfl rfl ?_
  refine gos ?_
  refine RetW.plain (by simp) ?_
  simp [spcB, k1, k2]
end Go.Proofs.YtijdnjngfkohfaaGreatDoor
