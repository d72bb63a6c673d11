/- Signed numbers by the base of sixteen. -/
import Derived.Test.YtpipbjfcbbdicaaGreatDoorJ09
import Derived.Test.YtpipbjfcbbdicaaGreatDoorJ07
import Derived.Test.YtpipbjfcbbdicaaGreatDoorJ06
set_option linter.unusedVariables false
set_option linter.unusedSimpArgs false
set_option maxRecDepth 100000
set_option maxHeartbeats 4000000

namespace Go.Proofs.YtpipbjfcbbdicaaGreatDoor
open Go Go.Abs
attribute [local irreducible] DrawW CallW RetW AC Does CmpW
variable {G : Globs}

def tlO (vl : Nat) (l : List TTxt) : AObj := ⟨vl, 27, 1, [[txtL l]]⟩
def fnO (vo : Nat) (fid : FuncId) (va : Nat) (cs : List AV) : AObj := ⟨vo, 60, 1, [[.func (.func fid) [] [.ptr 0 va 0 0, .fptr cs]]]⟩
theorem cats1S_does (l : List TTxt) (hl : l.length < 100000) (i : Nat) (x : TTxt) (hx : l[i]? = some x) (vl vo va : Nat) (fid : FuncId) (cs : List AV) (A A' : AObj) (hA : closedLL A.es = true) (hA' : closedLL A'.es = true) (r : Bool)
    (hok : catG l i = true → Does Tryz.prog G fid ([] ++ [.str x.text] ++ [.ptr 0 va 0 0, .fptr cs]) [some A] fun ae O => ae = .ret (.bool r) ∧ O = [some A']) (hno : catG l i = false → A' = A) :
    Does Tryz.prog G 70 ([] ++ [.int .i64 (i : Nat), .agg (encT x)] ++ [.ptr 1 vl 0 0, .ptr 2 vo 0 0]) [some A, some (tlO vl l), some (fnO vo fid va cs)] fun ae O => ae = .ret (.bool (catG l i && r)) ∧ O = [some A', some (tlO vl l), some (fnO vo fid va cs)] := by
  have hlt := (List.getElem?_eq_some_iff.1 hx).1
  have hG : catG l i = (decide (0 ≤ x.cat) && (decide (i = 0) || match l[i - 1]? with
    | some y => decide (y.cat < x.cat)
    | none => false)) := by
    unfold catG; rw [hx]; rfl
  refine Does.body tab Tryz.func70 rfl rfl ?_
  refine gos ?_
  intro v1
  refine gos ?_
  refine DrawW.L ?_
  refine gos ?_
  by_cases h0 : 0 ≤ x.cat
  case neg =>
    have hf : catG l i = false := by rw [hG]; simp [h0]
    refine CmpW.N ?_
    refine gos ?_
    refine RetW.plain (by simp) ?_
    rw [hf, hno hf]
    exact ⟨rfl, rfl⟩
  refine CmpW.T ?_
  refine gos ?_
  by_cases hi : i = 0
  · have ht : catG l i = true := by rw [hG]; simp [h0, hi]
    refine CmpW.T ?_
    refine gos ?_
    refine CallW.meth 0 (hok ht) rfl rfl rfl hA hA' rfl ?_
    refine gos ?_
    refine RetW.plain (by simp) ?_
    rw [ht]
    exact ⟨rfl, rfl⟩
  refine CmpW.N ?_
  refine gos ?_
  obtain ⟨y, hy⟩ : ∃ y, l[i - 1]? = some y := ⟨_, List.getElem?_eq_getElem (by omega)⟩
  rw [show (i : Int) - 1 = ((i - 1 : Nat) : Int) by omega]
  refine And.intro (encT_two l) (And.intro (by omega) ⟨encT y, map_get hy, ?_⟩)
  refine gos ?_
  by_cases hc : y.cat < x.cat
  · have ht : catG l i = true := by rw [hG, hy]; simp [h0, hc]
    refine CmpW.T ?_
    refine gos ?_
    refine CallW.meth 0 (hok ht) rfl rfl rfl hA hA' rfl ?_
    refine gos ?_
    refine RetW.plain (by simp) ?_
    rw [ht]
    exact ⟨rfl, rfl⟩
  · have hf : catG l i = false := by rw [hG, hy]; simp [h0, hi, hc]
    refine CmpW.N ?_
    refine gos ?_
    refine RetW.plain (by simp) ?_
    rw [hf, hno hf]
    exact ⟨rfl, rfl⟩
theorem closedLL_inside {n : Nat} {es : List (List AV)} (h : closedLL es = true) : insideLL n es = true := insideLL_closed _ _ h
theorem catsS_does (l : List TTxt) (hl : l.length < 100000) (va : Nat) (fid : FuncId) (cs : List AV) (A : Nat → AObj) (hA : ∀ i, closedLL (A i).es = true) (ok : Nat → Bool)
    (hok : ∀ (i : Nat) (x : TTxt), l[i]? = some x → catG l i = true → Does Tryz.prog G fid ([] ++ [.str x.text] ++ [.ptr 0 va 0 0, .fptr cs]) [some (A i)] fun ae O => ae = .ret (.bool (ok i)) ∧ O = [some (A (i + 1))])
    (hno : ∀ i, catG l i = false → A (i + 1) = A i) :
    Does Tryz.prog G 37 [txtL l, .func (.func fid) [] [.ptr 0 va 0 0, .fptr cs]] [some (A 0)] fun ae O => ae = .ret (.bool (catsF l ok)) ∧ ∃ k, k ≤ l.length ∧ O = [some (A k)] ∧ (catsF l ok = true → k = l.length) := by
  have ll : (l.map encT).length = l.length := by simp
  refine Does.bodyA tab Tryz.func37 rfl rfl ?_
  refine AC.step tab ?_
  refine gos ?_
  intro v1
  refine gos ?_
  intro v2
  refine gos ?_
  refine AC.step tab ?_
  refine gos ?_
  rw [ll]
  by_cases h0 : l.length = 0
  · have h0' : l = [] := List.eq_nil_of_length_eq_zero h0
    refine CmpW.T ?_
    refine gos ?_
    refine RetW.plain (by simp) ?_
    subst h0'
    exact ⟨rfl, 0, by omega, rfl, fun _ => rfl⟩
  refine CmpW.N ?_
  refine gos ?_
  obtain ⟨y, hy⟩ : ∃ y, l[l.length - 1]? = some y := ⟨_, List.getElem?_eq_getElem (by omega)⟩
  rw [ll, show (l.length : Int) - 1 = ((l.length - 1 : Nat) : Int) by omega]
  refine gos ?_
  refine And.intro (encT_two l) (And.intro (by omega) ⟨encT y, map_get hy, ?_⟩)
  refine gos ?_
  have hL := last_get hy
  by_cases h5 : y.cat = 5
  case neg =>
    have hC : catsF l ok = false := by rw [catsF, hL]; simp [h5]
    refine CmpW.t (by simpa using h5) ?_
    refine gos ?_
    refine RetW.plain (by simp) ?_
    rw [hC]
    exact ⟨rfl, 0, by omega, rfl, fun h => by cases h⟩
  have hC : catsF l ok = allB (fun i => catG l i && ok i) l.length := by rw [catsF, hL]; simp [h5]
  refine CmpW.f (by simpa using h5) ?_
  refine gos ?_
  refine AC.go tab ?_
  refine gos ?_
  have dE := evS_does (G := G) l (fun i => catG l i && ok i) A 70 v1 v2 (tlO v1 l) (fnO v2 fid va cs) rfl rfl hl (fun i => closedLL_inside (hA i)) fun i x hx _ => cats1S_does l hl i x hx v1 v2 va fid cs (A i) (A (i + 1)) (hA i) (hA (i + 1)) (ok i) (fun h => hok i x hx h) (fun h => hno i h)
  refine CallW.fst 3 (by simp) dE rfl (by simp [insideO, closedLL_inside (hA 0), insideLL, insideL, inside, tlO, fnO, txtL]) ?_
  rintro ae O ⟨rfl, k, hk, rfl, hkl⟩ _
  refine ⟨rfl, by simp [insideO, closedLL_inside (hA k), insideLL, insideL, inside, tlO, fnO, txtL], ?_⟩
  refine gos ?_
  refine RetW.plain (by simp) ?_
  rw [hC]
  exact ⟨rfl, k, hk, rfl, hkl⟩

def shiftF (q : FS) (mag : Int) : Int := if q.nb then 0 else IntKind.i64.wrap (IntKind.i64.wrap (mag - q.z) + 1)
def FS.fit (q : FS) : Prop := q.x = ⟨.nils, .nils, .nils, .nils⟩ ∨ ∃ v : PatV, q.x = affV v
theorem fs0_fit : fs0.fit := .inl rfl
theorem rowS_fit {q : FS} (h : q.fit) (s : List UInt8) : (rowS q s).fit := by
  unfold rowS
  split
  · exact h
  · split
    · exact h
    · exact .inr ⟨_, rfl⟩
theorem fit_ok {q : FS} (h : q.fit) : q.ok := by
  unfold FS.ok
  rcases h with h | ⟨v, h⟩
  · rw [h]; exact ⟨rfl, rfl, rfl, rfl⟩
  · rw [h]; exact fsV_ok v
theorem Shift_does (q : FS) (hq : q.fit) (mag : Int) : Does Tryz.prog G 95 [.agg q.cells, .int .i64 mag] [] fun ae _ => ae = .ret (.int .i64 (shiftF q mag)) := by
  obtain ⟨z, nb, x, two, N⟩ := q
  have h3 : x = ⟨.nils, .nils, .nils, .nils⟩ ∨ (∃ a b, x = ⟨encL a, encL b, .nils, .nils⟩) ∨ (∃ a b c d, x = ⟨encL a, encL b, encL c, encL d⟩) := by
    rcases hq with h | ⟨⟨p, q, p', q', two, N⟩, h⟩
    · exact .inl h
    · simp only at h
      cases two
      · exact .inr (.inl ⟨p, q, h⟩)
      · exact .inr (.inr ⟨p, q, p', q', h⟩)
  clear hq
  refine Does.body tab Tryz.func95 rfl rfl ?_
  rcases h3 with rfl | ⟨a, b, rfl⟩ | ⟨a, b, c, d, rfl⟩ <;> cases nb
  all_goals
    refine gos ?_
    intro v1
    refine gos ?_
    refine RetW.plain (by simp) ?_
    rfl
/-- What a row's first patterns leave. -/
def rowA (cur : Int) (l : List TTxt) : Nat → FS
  | 0 => fs0
  | i + 1 => if catG l i then (match l[i]? with
      | some x => rowS (rowA cur l i) x.text
      | none => rowA cur l i) else rowA cur l i
theorem rowA_fit (cur : Int) (l : List TTxt) : ∀ i, (rowA cur l i).fit
  | 0 => fs0_fit
  | i + 1 => by
    unfold rowA
    split
    · split
      · exact rowS_fit (rowA_fit cur l i) _
      · exact rowA_fit cur l i
    · exact rowA_fit cur l i
def rowK (cur : Int) (l : List TTxt) (i : Nat) : Bool := match l[i]? with
  | some x => rowR (rowA cur l i) cur x.text
  | none => false
/-- Is a row as it must be? -/
def rowB (cur : Int) (r : TRow) : Bool := inF r.mag 0 100 && catsF r.texts (rowK cur r.texts)
def rowH (cur : Int) (r : TRow) : Int := shiftF (rowA cur r.texts r.texts.length) r.mag
theorem row_does (m : Int) (r : TRow) (cur : Int) (hl : r.texts.length < 100000) (ht : ∀ x ∈ r.texts, x.text.length < 100000) :
    Does Tryz.prog (GL m) 66 [.agg (encR r), .int .i64 cur] [] fun ae _ => ∃ n, ae = .ret (.tuple [.int .i64 n, .bool (rowB cur r)]) ∧ (rowB cur r = true → n = rowH cur r) := by
  refine Does.bodyA tab Tryz.func66 rfl rfl ?_
  refine AC.step tab ?_
  refine gos ?_
  intro v1
  refine gos ?_
  intro v2
  refine gos ?_
  refine AC.wk (Wk.ptr (k := 2) (i := 0) rfl rfl rfl rfl rfl) ?_
  refine AC.wk (Wk.ptr (k := 3) (i := 1) rfl rfl rfl rfl rfl) ?_
  refine AC.step tab ?_
  refine gos ?_
  intro v3
  refine gos ?_
  refine AC.cutF tab (fun e h => ∃ q : FS, q.fit ∧ (rowB cur r = true → q = rowA cur r.texts r.texts.length) ∧ e = [.any, .any, .fptr (encR r), .fptr [.int .i64 cur], .any, .any, .ptr 2 v3 0 0, .bool (rowB cur r)] ++ List.replicate 14 .any ∧ h = [none, none, some (fsO v3 q)]) ?_ ?_
  · refine gos ?_
    refine CallW.pure (vin_does r.mag 0 100) rfl rfl ?_
    cases hin : inF r.mag 0 100 with
    | false =>
      have hB : rowB cur r = false := by simp [rowB, hin]
      refine gos ?_
      rw [hB]
      exact ⟨_, 3, fgts, fs0, fs0_fit, fun h => by (cases h), rfl, rfl⟩
    | true =>
      have hB : rowB cur r = catsF r.texts (rowK cur r.texts) := by simp [rowB, hin]
      refine gos ?_
      have dC := catsS_does (G := GL m) r.texts hl v3 94 [.int .i64 cur] (fun i => fsO v3 (rowA cur r.texts i)) (fun i => fsO_closed (fit_ok (rowA_fit cur r.texts i))) (rowK cur r.texts)
        (fun i x hx hg => by
          have h1 := row1_does m (rowA cur r.texts i) (fit_ok (rowA_fit cur r.texts i)) v3 cur x.text (ht x (List.mem_of_getElem? hx))
          have e1 : rowK cur r.texts i = rowR (rowA cur r.texts i) cur x.text := by simp [rowK, hx]
          have e2 : rowA cur r.texts (i + 1) = rowS (rowA cur r.texts i) x.text := by simp [rowA, hg, hx]
          simp only [e1, e2]
          exact h1)
        (fun i hg => by simp [rowA, hg])
      refine CallW.of1 2 dC rfl (fsO_closed fs0_ok) rfl rfl ?_
      rintro ae O ⟨rfl, k, hk, rfl, hkl⟩
      refine ⟨_, rfl, fsO_closed (fit_ok (rowA_fit cur r.texts k)), rfl, ?_⟩
      refine gos ?_
      rw [hB]
      exact ⟨_, 3, fgts, rowA cur r.texts k, rowA_fit cur r.texts k, fun h => by rw [hkl h], rfl, rfl⟩
  rintro e h ⟨q, hq, hqe, rfl, rfl⟩
  refine AC.go tab ?_
  refine gos ?_
  refine CallW.pure (Shift_does q hq r.mag) ?_ rfl ?_
  · obtain ⟨h1, h2, h3, h4⟩ := fit_ok hq
    simp [closedL, closed, h1, h2, h3, h4]
  refine gos ?_
  refine RetW.plain (by simp) ?_
  exact ⟨_, rfl, fun h => by rw [hqe h]; rfl⟩
end Go.Proofs.YtpipbjfcbbdicaaGreatDoor

namespace Go.Proofs.YtpipbjfcbbdicaaGreatDoor
open Go Go.Abs
attribute [local irreducible] DrawW CallW RetW AC Does CmpW

/-- How far the last row's numbers are shifted. -/
def rowLast (cur : Int) (l : List TRow) : Nat → Int
  | 0 => 0
  | i + 1 => match l[i]? with
    | some x => rowH cur x
    | none => 0
def rowP (cur : Int) (l : List TRow) (i : Nat) : Bool := match l[i]? with
  | some x => rowB cur x && (decide (rowLast cur l i ≤ rowH cur x) && (decide (i = 0) || match l[i - 1]? with
    | some y => decide (y.mag < x.mag)
    | none => false))
  | none => false
/-- Are rows as they must be? -/
def rowsF (l : List TRow) (cur : Int) : Bool := decide (l.length ≤ 16) && allB (rowP cur l) l.length
def TRow.fits (r : TRow) : Prop := r.texts.length < 100000 ∧ ∀ x ∈ r.texts, x.text.length < 100000
def nO (ver : Nat) (n : Int) : AObj := ⟨ver, 3, 1, [[.int .i64 n]]⟩
theorem rows1_does (m : Int) (l : List TRow) (cur : Int) (hl : l.length < 100000) (hf : ∀ r ∈ l, r.fits) (ver : Nat) (i : Nat) (x : TRow) (hx : l[i]? = some x) :
    Does Tryz.prog (GL m) 65 ([] ++ [.int .i64 (i : Nat), .agg (encR x)] ++ [.fptr [.int .i64 cur], .ptr 0 ver 0 0, .fptr [rowL l]]) [some (nO ver (rowLast cur l i))] fun ae O =>
      ae = .ret (.bool (rowP cur l i)) ∧ ∃ o, O = [some o] ∧ closedLL o.es = true ∧ (rowP cur l i = true → o = nO ver (rowLast cur l (i + 1))) := by
  have hlt := (List.getElem?_eq_some_iff.1 hx).1
  have hfx := hf x (List.mem_of_getElem? hx)
  have hP : rowP cur l i = (rowB cur x && (decide (rowLast cur l i ≤ rowH cur x) && (decide (i = 0) || match l[i - 1]? with
    | some y => decide (y.mag < x.mag)
    | none => false))) := by
    unfold rowP; rw [hx]
  have hN : rowLast cur l (i + 1) = rowH cur x := by simp [rowLast, hx]
  rw [hN]
  obtain ⟨last, hlast⟩ : ∃ n, n = rowLast cur l i := ⟨_, rfl⟩
  rw [← hlast] at hP ⊢
  refine Does.bodyA tab Tryz.func65 rfl rfl ?_
  refine AC.step tab ?_
  refine gos ?_
  intro v1
  refine gos ?_
  refine AC.step tab ?_
  refine gos ?_
  refine CallW.of0 (row_does m x cur hfx.1 hfx.2) rfl ?_
  rintro ae ⟨n, rfl, hn⟩
  refine ⟨rfl, ?_⟩
  refine gos ?_
  refine AC.cutF tab (fun e h => e = [.any, .any, .any, .ptr 0 ver 0 0, .any, .any, .any, .any, .int .i64 n, .bool (rowP cur l i)] ++ List.replicate 29 .any ∧ h = [some (nO ver last)]) ?_ ?_
  · refine gos ?_
    refine DrawW.L ?_
    cases hB : rowB cur x with
    | false =>
      have hp : rowP cur l i = false := by rw [hP, hB]; rfl
      refine gos ?_
      rw [hp]
      exact ⟨_, 1, fgts, rfl, rfl⟩
    | true =>
    have hn2 := hn hB
    subst hn2
    rw [hB, Bool.true_and] at hP
    refine gos ?_
    by_cases h1 : last ≤ rowH cur x
    case neg =>
      have hp : rowP cur l i = false := by rw [hP]; simp [h1]
      refine CmpW.N ?_
      refine gos ?_
      rw [hp]
      exact ⟨_, 1, fgts, rfl, rfl⟩
    refine CmpW.T ?_
    refine gos ?_
    by_cases h2 : i = 0
    · have hp : rowP cur l i = true := by rw [hP]; simp [h1, h2]
      refine CmpW.T ?_
      refine gos ?_
      rw [hp]
      exact ⟨_, 1, fgts, rfl, rfl⟩
    refine CmpW.N ?_
    refine gos ?_
    obtain ⟨y, hy⟩ : ∃ y, l[i - 1]? = some y := ⟨_, List.getElem?_eq_getElem (by omega)⟩
    rw [hy] at hP
    rw [show (i : Int) - 1 = ((i - 1 : Nat) : Int) by omega]
    refine And.intro (encR_two l) (And.intro (by omega) ⟨encR y, map_get hy, ?_⟩)
    refine gos ?_
    refine CmpW.s ?_
    refine gos ?_
    have hp : rowP cur l i = decide (x.mag > y.mag) := by rw [hP]; simp [h1, h2]
    rw [hp]
    exact ⟨_, 1, fgts, rfl, rfl⟩
  rintro e h ⟨rfl, rfl⟩
  refine AC.step tab ?_
  refine gos ?_
  refine AC.go tab ?_
  refine gos ?_
  refine RetW.plain (by simp) ?_
  refine ⟨rfl, _, rfl, rfl, fun h => ?_⟩
  have hB : rowB cur x = true := by rw [hP] at h; cases hb : rowB cur x with
    | true => rfl
    | false => rw [hb] at h; cases h
  rw [hn hB]
  rfl
theorem rows_does (m : Int) (l : List TRow) (cur : Int) (hl : l.length < 100000) (hf : ∀ r ∈ l, r.fits) :
    Does Tryz.prog (GL m) 29 [rowL l, .int .i64 cur] [] fun ae _ => ae = .ret (.bool (rowsF l cur)) := by
  have ll : (l.map encR).length = l.length := by simp
  refine Does.bodyA tab Tryz.func29 rfl rfl ?_
  refine AC.step tab ?_
  refine gos ?_
  intro v1
  refine gos ?_
  intro v2
  refine gos ?_
  refine AC.wk (Wk.ptr (k := 2) (i := 0) rfl rfl rfl rfl rfl) ?_
  refine AC.wk (Wk.ptr (k := 3) (i := 1) rfl rfl rfl rfl rfl) ?_
  refine AC.step tab ?_
  refine gos ?_
  intro v3
  refine gos ?_
  refine AC.go tab ?_
  refine gos ?_
  rw [ll]
  by_cases h16 : l.length ≤ 16
  · refine CmpW.T ?_
    refine gos ?_
    have dE := evR_does (G := GL m) l (rowP cur l) (fun i => nO v3 (rowLast cur l i)) 65 [.int .i64 cur] [rowL l] v3 hl (fun i => rfl) fun i x hx _ => rows1_does m l cur hl hf v3 i x hx
    refine CallW.of1 2 dE rfl rfl rfl rfl ?_
    rintro ae O ⟨rfl, o, rfl, ho⟩
    refine ⟨o, rfl, ho, rfl, ?_⟩
    refine gos ?_
    refine RetW.plain (by simp) ?_
    simp [rowsF, h16]
  · refine CmpW.N ?_
    refine gos ?_
    refine RetW.plain (by simp) ?_
    simp [rowsF, h16]
end Go.Proofs.YtpipbjfcbbdicaaGreatDoor

namespace Go.Proofs.YtpipbjfcbbdicaaGreatDoor
open Go Go.Abs
attribute [local irreducible] DrawW CallW RetW AC Does CmpW
set_option maxRecDepth 100000
variable {G : Globs}

/-- Which categories are there already. -/
structure Fnd where
  c0 : Bool
  c1 : Bool
  c2 : Bool
  c3 : Bool
  c4 : Bool
  c5 : Bool
def rro (ver : Nat) (s : List UInt8) (a n : Nat) (F : Fnd) : AObj := ⟨ver, 117, 9, [[.str s, .int .i64 a, .int .i64 n, .bool F.c0, .bool F.c1, .bool F.c2, .bool F.c3, .bool F.c4, .bool F.c5]]⟩
def rfault (r : Int × Nat) : AV := .iface 112 (.agg [.int .i64 r.1, .int .i64 r.2])

theorem rfail_does (e : Int) (a : Nat) : Does Tryz.prog G 93 [.int .i64 e, .int .i64 a] [] fun ae O => ae = .panic (rfault (e, a)) ∧ O = [] := by
  refine Does.body tab Tryz.func93 rfl rfl ?_
  refine gos ?_
  exact ⟨Nat.le_refl _, rfl, rfl⟩

theorem blanks_does (s : List UInt8) (a n : Nat) (F : Fnd) (ha : a ≤ s.length) (hs : s.length < 100000) (ver : Nat) :
    Does Tryz.prog G 118 [.ptr 0 ver 0 0] [some (rro ver s a n F)] fun ae O => ae = .ret (.tuple []) ∧ O = [some (rro ver s (bl s a) n F)] := by
  refine Does.body tab Tryz.func118 rfl rfl ?_
  refine gos ?_
  refine AC.loopC tab (fun f e h => ∃ k, s.length < f + (a + k) ∧ a + k ≤ s.length ∧ k ≤ tw s (fun c => c == 32) a ∧ e = [.ptr 0 ver 0 0] ++ List.replicate 30 .any ∧ h = [some (rro ver s (a + k) n F)]) (s.length + 1) ⟨_, fgts, 0, by omega, by omega, by omega, rfl, rfl⟩ ?_
  rintro f e h ⟨k, hf, hk, hkt, rfl, rfl⟩
  refine gos ?_
  refine DrawW.L ?_
  refine gos ?_
  by_cases hlt : a + k < s.length
  · obtain ⟨c, hc⟩ : ∃ c, s[a + k]? = some c := ⟨_, List.getElem?_eq_getElem hlt⟩
    refine CmpW.t (by simp; omega) ?_
    refine gos ?_
    refine And.intro (by omega) ⟨c, hc, ?_⟩
    refine gos ?_
    by_cases h32 : c = 32
    · subst h32
      refine CmpW.t (by simp) ?_
      refine gos ?_
      refine ⟨f - 1, _, 1, by omega, fgts, k + 1, by omega, by omega, tw_go hkt hc rfl, rfl, rfl⟩
    · refine CmpW.f (by simp; exact fun h => h32 (u8_of h rfl)) ?_
      refine gos ?_
      have : bl s a = a + k := by unfold bl; rw [← tw_stop hkt fun d hd => by rw [hc] at hd; cases hd; simpa using h32]
      rw [this]
      refine RetW.plain (by simp) ?_
      exact ⟨rfl, rfl⟩
  · refine CmpW.f (by simp; omega) ?_
    refine gos ?_
    have : bl s a = a + k := by unfold bl; rw [← tw_stop hkt fun d hd => by rw [List.getElem?_eq_none (by omega)] at hd; cases hd]
    rw [this]
    refine RetW.plain (by simp) ?_
    exact ⟨rfl, rfl⟩

/-- The byte behind blanks; nought at the end. -/
def pk (s : List UInt8) (a : Nat) : Nat := match s[bl s a]? with | some c => c.toNat | none => 0
theorem peek_does (s : List UInt8) (a n : Nat) (F : Fnd) (ha : a ≤ s.length) (hs : s.length < 100000) (ver : Nat) :
    Does Tryz.prog G 90 [.ptr 0 ver 0 0] [some (rro ver s a n F)] fun ae O => ae = .ret (.int .u8 (pk s a)) ∧ O = [some (rro ver s (bl s a) n F)] := by
  refine Does.body tab Tryz.func90 rfl rfl ?_
  refine gos ?_
  refine CallW.meth 0 (blanks_does s a n F ha hs ver) rfl rfl rfl rfl rfl rfl ?_
  refine gos ?_
  refine DrawW.L ?_
  refine gos ?_
  have hb := bl_le ha
  by_cases hlt : bl s a < s.length
  · obtain ⟨c, hc⟩ : ∃ c, s[bl s a]? = some c := ⟨_, List.getElem?_eq_getElem hlt⟩
    refine CmpW.f (by simp; omega) ?_
    refine gos ?_
    refine DrawW.L ?_
    refine gos ?_
    refine And.intro (by omega) ⟨c, hc, ?_⟩
    refine gos ?_
    refine RetW.plain (by simp) ?_
    simp only [pk, hc]
    exact ⟨trivial, rfl⟩
  · refine CmpW.t (by simp; omega) ?_
    refine gos ?_
    refine RetW.plain (by simp) ?_
    simp only [pk, List.getElem?_eq_none (show s.length ≤ bl s a by omega)]
    exact ⟨rfl, rfl⟩

theorem take_does (s t : List UInt8) (a n : Nat) (F : Fnd) (ha : a ≤ s.length) (hs : s.length < 100000) (ver : Nat) :
    Does Tryz.prog G 92 [.ptr 0 ver 0 0, .str t] [some (rro ver s a n F)] fun ae O => ae = .ret (.bool (pre s (bl s a) t)) ∧ O = [some (rro ver s (if pre s (bl s a) t then bl s a + t.length else bl s a) n F)] := by
  refine Does.body tab Tryz.func92 rfl rfl ?_
  refine gos ?_
  refine CallW.meth 0 (blanks_does s a n F ha hs ver) rfl rfl rfl rfl rfl rfl ?_
  refine gos ?_
  refine DrawW.L ?_
  have hb := bl_le ha
  refine gos ?_
  refine And.intro (And.intro (by omega) (by omega)) ?_
  refine CallW.pure (HasPrefix_does G _ _) rfl rfl ?_
  have h' : t.isPrefixOf (s.drop (bl s a : Int).toNat) = pre s (bl s a) t := rfl
  rw [h']
  cases hp : pre s (bl s a) t with
  | true =>
    have hle : bl s a + t.length ≤ s.length := by
      by_cases h0 : t = []
      · subst h0; simpa using hb.2
      · exact pre_le hp h0
    refine gos ?_
    refine RetW.plain (by simp) ?_
    simp only [if_true]
    exact ⟨trivial, rfl⟩
  | false =>
    refine gos ?_
    refine RetW.plain (by simp) ?_
    exact ⟨rfl, rfl⟩

theorem want_does (s t : List UInt8) (a n : Nat) (F : Fnd) (ha : a ≤ s.length) (hs : s.length < 100000) (ver : Nat) :
    Does Tryz.prog G 121 [.ptr 0 ver 0 0, .str t] [some (rro ver s a n F)] fun ae O => match pre s (bl s a) t with
      | true => ae = .ret (.tuple []) ∧ O = [some (rro ver s (bl s a + t.length) n F)]
      | false => ae = .panic (rfault (1, bl s a)) := by
  refine Does.body tab Tryz.func121 rfl rfl ?_
  refine gos ?_
  refine CallW.meth 0 (take_does s t a n F ha hs ver) rfl rfl rfl rfl rfl rfl ?_
  cases hp : pre s (bl s a) t with
  | true =>
    simp only [if_true]
    refine gos ?_
    refine RetW.plain (by simp) ?_
    exact ⟨rfl, rfl⟩
  | false =>
    simp only [Bool.false_eq_true, if_false]
    refine gos ?_
    refine CallW.of0 (rfail_does 1 (bl s a)) rfl ?_
    rintro ae ⟨rfl, _⟩
    refine ⟨rfl, ?_⟩
    refine gos ?_
    exact ⟨by simp, rfl⟩

theorem run_does (s : List UInt8) (lo hi : UInt8) (a n : Nat) (F : Fnd) (ha : a ≤ s.length) (hs : s.length < 100000) (ver : Nat) :
    Does Tryz.prog G 143 [.ptr 0 ver 0 0, .int .u8 lo.toNat, .int .u8 hi.toNat] [some (rro ver s a n F)] fun ae O => ae = .ret (.int .i64 (tw s (fun c => lo ≤ c && c ≤ hi) a)) ∧ O = [some (rro ver s a n F)] := by
  refine Does.body tab Tryz.func143 rfl rfl ?_
  refine gos ?_
  refine AC.loopC tab (fun f e h => ∃ k : Nat, s.length < f + (a + k) ∧ a + k ≤ s.length ∧ k ≤ tw s (fun c => lo ≤ c && c ≤ hi) a ∧ e = [.ptr 0 ver 0 0, .int .u8 lo.toNat, .int .u8 hi.toNat, .any, .any, .any, .any, .int .i64 k] ++ List.replicate 45 .any ∧ h = [some (rro ver s a n F)]) (s.length + 1) ⟨_, fgts, 0, by omega, by omega, by omega, rfl, rfl⟩ ?_
  rintro f e h ⟨k, hf, hk, hkt, rfl, rfl⟩
  refine gos ?_
  refine DrawW.L ?_
  refine gos ?_
  have stop : (∀ d, s[a + k]? = some d → (lo ≤ d && d ≤ hi) = false) → k = tw s (fun c => lo ≤ c && c ≤ hi) a := tw_stop hkt
  by_cases hlt : a + k < s.length
  · obtain ⟨c, hc⟩ : ∃ c, s[a + k]? = some c := ⟨_, List.getElem?_eq_getElem hlt⟩
    refine CmpW.t (by simp; omega) ?_
    refine gos ?_
    refine And.intro (by omega) ⟨c, hc, ?_⟩
    refine gos ?_
    by_cases h1 : lo ≤ c
    · have h1' : lo.toNat ≤ c.toNat := h1
      refine CmpW.t (by simp; omega) ?_
      refine gos ?_
      refine And.intro (by omega) ⟨c, hc, ?_⟩
      refine gos ?_
      by_cases h2 : c ≤ hi
      · have h2' : c.toNat ≤ hi.toNat := h2
        refine CmpW.t (by simp; omega) ?_
        refine gos ?_
        refine ⟨f - 1, _, 1, by omega, fgts, k + 1, by omega, by omega, tw_go hkt hc (by simp [h1, h2]), rfl, rfl⟩
      · have h2' : ¬ c.toNat ≤ hi.toNat := h2
        refine CmpW.f (by simp; omega) ?_
        refine gos ?_
        rw [← stop fun d hd => by rw [hc] at hd; cases hd; simp [h2]]
        refine RetW.plain (by simp) ?_
        exact ⟨rfl, rfl⟩
    · have h1' : ¬ lo.toNat ≤ c.toNat := h1
      refine CmpW.f (by simp; omega) ?_
      refine gos ?_
      rw [← stop fun d hd => by rw [hc] at hd; cases hd; simp [h1]]
      refine RetW.plain (by simp) ?_
      exact ⟨rfl, rfl⟩
  · refine CmpW.f (by simp; omega) ?_
    refine gos ?_
    rw [← stop fun d hd => by rw [List.getElem?_eq_none (by omega)] at hd; cases hd]
    refine RetW.plain (by simp) ?_
    exact ⟨rfl, rfl⟩

/-- The next word. -/
def wd (s : List UInt8) (a : Nat) : List UInt8 := (s.drop (bl s a)).takeWhile fun c => 97 ≤ c && c ≤ 122
theorem word_does (s : List UInt8) (a n : Nat) (F : Fnd) (ha : a ≤ s.length) (hs : s.length < 100000) (ver : Nat) :
    Does Tryz.prog G 119 [.ptr 0 ver 0 0] [some (rro ver s a n F)] fun ae O => ae = .ret (.str (wd s a)) ∧ O = [some (rro ver s (bl s a) n F)] := by
  refine Does.body tab Tryz.func119 rfl rfl ?_
  refine gos ?_
  refine CallW.meth 0 (blanks_does s a n F ha hs ver) rfl rfl rfl rfl rfl rfl ?_
  refine gos ?_
  have hb := bl_le ha
  have hw := tw_le (fun c => (97 : UInt8) ≤ c && c ≤ 122) hb.2
  have hr := run_does (G := G) s 97 122 (bl s a) n F hb.2 hs ver
  refine DrawW.P (.take 0 (.take 1 (.take 2 (.take 4 (.take 5 (.take 6 (.take 8 (.take 9 (.take 10 (.take 12 (.fork (.cons 3 (.fork (.cons 7 (.fork (.cons 11 (.take 13 (.take 14 (.take 15 (.take 16 .done)))) (.cons 13 (.take 11 (.take 14 (.take 15 (.take 16 .done)))) .nil))) (.cons 11 (.fork (.cons 7 (.take 13 (.take 14 (.take 15 (.take 16 .done)))) (.cons 13 (.take 7 (.take 14 (.take 15 (.take 16 .done)))) .nil))) (.cons 13 (.take 7 (.take 11 (.take 14 (.take 15 (.take 16 .done))))) .nil)))) (.cons 7 (.fork (.cons 3 (.fork (.cons 11 (.take 13 (.take 14 (.take 15 (.take 16 .done)))) (.cons 13 (.take 11 (.take 14 (.take 15 (.take 16 .done)))) .nil))) (.cons 11 (.fork (.cons 3 (.take 13 (.take 14 (.take 15 (.take 16 .done)))) (.cons 13 (.take 3 (.take 14 (.take 15 (.take 16 .done)))) .nil))) (.cons 13 (.take 3 (.take 11 (.take 14 (.take 15 (.take 16 .done))))) .nil)))) (.cons 11 (.fork (.cons 3 (.fork (.cons 7 (.take 13 (.take 14 (.take 15 (.take 16 .done)))) (.cons 13 (.take 7 (.take 14 (.take 15 (.take 16 .done)))) .nil))) (.cons 7 (.fork (.cons 3 (.take 13 (.take 14 (.take 15 (.take 16 .done)))) (.cons 13 (.take 3 (.take 14 (.take 15 (.take 16 .done)))) .nil))) (.cons 13 (.take 3 (.take 7 (.take 14 (.take 15 (.take 16 .done))))) .nil)))) (.cons 13 (.take 3 (.take 7 (.take 11 (.take 14 (.take 15 (.take 16 .done)))))) .nil))))))))))))))) ?_
  (repeat' (first | exact trivial | refine gon ?_ | refine CallW.meth 0 hr rfl rfl rfl rfl rfl rfl ?_ | refine And.intro (And.intro (by omega) (And.intro (by omega) (by omega))) ?_ | refine And.intro ?_ ?_))
  all_goals
    refine RetW.plain (by simp) ?_
    refine ⟨?_, rfl⟩
    rw [show ((bl s a : Int) + (tw s (fun c => (97 : UInt8) ≤ c && c ≤ 122) (bl s a) : Int)).toNat = bl s a + tw s (fun c => (97 : UInt8) ≤ c && c ≤ 122) (bl s a) by omega, Int.toNat_natCast, tw_text]
    rfl
end Go.Proofs.YtpipbjfcbbdicaaGreatDoor

namespace Go.Proofs.YtpipbjfcbbdicaaGreatDoor
open Go Go.Abs
attribute [local irreducible] DrawW CallW RetW AC Does CmpW
variable {G : Globs}

def cro (ver : Nat) (s : List UInt8) (a : Nat) (bad : Int) : AObj := ⟨ver, 163, 3, [[.str s, .int .i64 a, .int .i64 bad]]⟩
def bd (a : Nat) (bad : Int) : Int := if bad < 0 then a else bad
theorem cfail_does (s : List UInt8) (a : Nat) (bad : Int) (ver : Nat) : Does Tryz.prog G 126 [.ptr 0 ver 0 0] [some (cro ver s a bad)] fun ae O => ae = .ret (.tuple []) ∧ O = [some (cro ver s a (bd a bad))] := by
  refine Does.body tab Tryz.func126 rfl rfl ?_
  refine gos ?_
  by_cases h : bad < 0
  · refine CmpW.T ?_
    refine gos ?_
    refine RetW.plain (by simp) ?_
    simp only [bd, if_pos h]
    (first | exact ⟨rfl, rfl⟩ | exact ⟨trivial, rfl⟩ | exact ⟨rfl, trivial⟩ | rfl | trivial | done)
  · refine CmpW.N ?_
    refine gos ?_
    refine RetW.plain (by simp) ?_
    simp only [bd, if_neg h]
    (first | exact ⟨rfl, rfl⟩ | exact ⟨trivial, rfl⟩ | exact ⟨rfl, trivial⟩ | rfl | trivial | done)

theorem cpeek_does (s : List UInt8) (a : Nat) (bad : Int) (ha : a ≤ s.length) (hs : s.length < 100000) (ver : Nat) :
    Does Tryz.prog G 128 [.ptr 0 ver 0 0] [some (cro ver s a bad)] fun ae O => ae = .ret (.int .u8 (pk s a)) ∧ O = [some (cro ver s (bl s a) bad)] := by
  refine Does.bodyA tab Tryz.func128 rfl rfl ?_
  refine AC.step tab ?_
  refine gos ?_
  refine AC.cutF tab (fun e h => e = [.ptr 0 ver 0 0] ++ List.replicate 50 .any ∧ h = [some (cro ver s (bl s a) bad)]) ?_ ?_
  · refine AC.loopC tab (fun f e h => ∃ k, s.length < f + (a + k) ∧ a + k ≤ s.length ∧ k ≤ tw s (fun c => c == 32) a ∧ e = [.ptr 0 ver 0 0] ++ List.replicate 50 .any ∧ h = [some (cro ver s (a + k) bad)]) (s.length + 1) ⟨_, fgts, 0, by omega, by omega, by omega, rfl, rfl⟩ ?_
    rintro f e h ⟨k, hf, hk, hkt, rfl, rfl⟩
    refine gos ?_
    refine DrawW.L ?_
    refine gos ?_
    by_cases hlt : a + k < s.length
    · obtain ⟨c, hc⟩ : ∃ c, s[a + k]? = some c := ⟨_, List.getElem?_eq_getElem hlt⟩
      refine CmpW.t (by simp; omega) ?_
      refine gos ?_
      refine And.intro (by omega) ⟨c, hc, ?_⟩
      refine gos ?_
      by_cases h32 : c = 32
      · subst h32
        refine CmpW.t (by simp) ?_
        refine gos ?_
        refine ⟨f - 1, _, 1, by omega, fgts, k + 1, by omega, by omega, tw_go hkt hc rfl, rfl, rfl⟩
      · refine CmpW.f (by simp; exact fun h => h32 (u8_of h rfl)) ?_
        refine gos ?_
        have : bl s a = a + k := by unfold bl; rw [← tw_stop hkt fun d hd => by rw [hc] at hd; cases hd; simpa using h32]
        rw [this]
        exact ⟨_, 1, fgts, rfl, rfl⟩
    · refine CmpW.f (by simp; omega) ?_
      refine gos ?_
      have : bl s a = a + k := by unfold bl; rw [← tw_stop hkt fun d hd => by rw [List.getElem?_eq_none (by omega)] at hd; cases hd]
      rw [this]
      exact ⟨_, 1, fgts, rfl, rfl⟩
  rintro e h ⟨rfl, rfl⟩
  refine AC.go tab ?_
  refine gos ?_
  refine DrawW.L ?_
  refine gos ?_
  have hb := bl_le ha
  by_cases hlt : bl s a < s.length
  · obtain ⟨c, hc⟩ : ∃ c, s[bl s a]? = some c := ⟨_, List.getElem?_eq_getElem hlt⟩
    refine CmpW.f (by simp; omega) ?_
    refine gos ?_
    refine DrawW.L ?_
    refine gos ?_
    refine And.intro (by omega) ⟨c, hc, ?_⟩
    refine gos ?_
    refine RetW.plain (by simp) ?_
    simp only [pk, hc]
    (first | exact ⟨rfl, rfl⟩ | exact ⟨trivial, rfl⟩ | exact ⟨rfl, trivial⟩ | rfl | trivial | done)
  · refine CmpW.t (by simp; omega) ?_
    refine gos ?_
    refine RetW.plain (by simp) ?_
    simp only [pk, List.getElem?_eq_none (show s.length ≤ bl s a by omega)]
    (first | exact ⟨rfl, rfl⟩ | exact ⟨trivial, rfl⟩ | exact ⟨rfl, trivial⟩ | rfl | trivial | done)

/-- Is a byte next, behind blanks? -/
def nx (s : List UInt8) (a : Nat) (b : UInt8) : Bool := decide (s[bl s a]? = some b)
def nxE (s : List UInt8) (a : Nat) (b : UInt8) : Nat := if nx s a b then bl s a + 1 else bl s a
theorem nxE_le {s : List UInt8} {a : Nat} (b : UInt8) (ha : a ≤ s.length) : a ≤ nxE s a b ∧ nxE s a b ≤ s.length := by
  have hb := bl_le ha
  unfold nxE nx
  split
  · rename_i h
    have := (List.getElem?_eq_some_iff.1 (of_decide_eq_true h)).1
    omega
  · omega
theorem pk_nx {s : List UInt8} {a : Nat} {b : UInt8} (hb : b ≠ 0) : (pk s a = b.toNat) ↔ nx s a b = true := by
  unfold pk nx
  cases h : s[bl s a]? with
  | none =>
    simp only [decide_eq_true_eq, reduceCtorEq, iff_false]
    intro e
    exact hb (UInt8.toNat_inj.1 (by simpa using e.symm))
  | some c =>
    simp only [decide_eq_true_eq, Option.some.injEq]
    exact UInt8.toNat_inj
theorem ctake_does (s : List UInt8) (a : Nat) (bad : Int) (b : UInt8) (hb0 : b ≠ 0) (ha : a ≤ s.length) (hs : s.length < 100000) (ver : Nat) :
    Does Tryz.prog G 125 [.ptr 0 ver 0 0, .int .u8 b.toNat] [some (cro ver s a bad)] fun ae O => ae = .ret (.bool (nx s a b)) ∧ O = [some (cro ver s (nxE s a b) bad)] := by
  refine Does.body tab Tryz.func125 rfl rfl ?_
  refine gos ?_
  have hb := bl_le ha
  have hp := pk_nx (s := s) (a := a) hb0
  refine DrawW.P (.take 0 (.take 2 (.take 1 (.take 3 (.take 4 (.take 5 (.take 6 (.take 7 (.take 8 (.take 9 (.take 10 (.take 11 (.take 12 (.take 13 (.take 14 (.take 15 .done)))))))))))))))) ?_
  refine gos ?_
  refine CallW.meth 0 (cpeek_does s a bad ha hs ver) rfl rfl rfl rfl rfl rfl ?_
  refine gos ?_
  cases hn : nx s a b with
  | false =>
    have h1 : ¬ pk s a = b.toNat := fun h => by rw [hp.1 h] at hn; cases hn
    refine CmpW.t (by simp; omega) ?_
    refine gos ?_
    refine RetW.plain (by simp) ?_
    simp only [nxE, hn, Bool.false_eq_true, if_false]
    (first | exact ⟨rfl, rfl⟩ | exact ⟨trivial, rfl⟩ | exact ⟨rfl, trivial⟩ | rfl | trivial | done)
  | true =>
    have h1 : pk s a = b.toNat := hp.2 hn
    have hlt : bl s a < s.length := (List.getElem?_eq_some_iff.1 (of_decide_eq_true hn)).1
    refine CmpW.f (by simp; omega) ?_
    refine gos ?_
    refine CmpW.f (by simp; omega) ?_
    refine gos ?_
    refine RetW.plain (by simp) ?_
    simp only [nxE, hn, if_true]
    (first | exact ⟨rfl, rfl⟩ | exact ⟨trivial, rfl⟩ | exact ⟨rfl, trivial⟩ | rfl | trivial | done)
end Go.Proofs.YtpipbjfcbbdicaaGreatDoor

namespace Go.Proofs.YtpipbjfcbbdicaaGreatDoor
open Go Go.Abs
attribute [local irreducible] DrawW CallW RetW AC Does CmpW
variable {G : Globs}

def isHex (c : UInt8) : Bool := (48 ≤ c && c ≤ 57) || (97 ≤ c && c ≤ 102)
def hexD (c : UInt8) : Nat := if c.toNat ≤ 57 then c.toNat - 48 else c.toNat - 87
def hexV (l : List UInt8) : Nat := l.foldl (fun n c => n * 16 + hexD c) 0
theorem isHex_cases {c : UInt8} (h : isHex c = true) : (48 ≤ c.toNat ∧ c.toNat ≤ 57) ∨ (97 ≤ c.toNat ∧ c.toNat ≤ 102) := by
  simp only [isHex, Bool.or_eq_true, Bool.and_eq_true, decide_eq_true_eq] at h
  rcases h with ⟨h1, h2⟩ | ⟨h1, h2⟩
  · exact .inl ⟨h1, h2⟩
  · exact .inr ⟨h1, h2⟩
theorem hexD_lt {c : UInt8} (h : isHex c = true) : hexD c < 16 := by
  unfold hexD
  rcases isHex_cases h with h | h <;> split <;> omega
theorem hexV_snoc (l : List UInt8) (c : UInt8) : hexV (l ++ [c]) = hexV l * 16 + hexD c := by simp [hexV]
theorem hexV_lt : ∀ (n : Nat) (l : List UInt8), l.length = n → (∀ c ∈ l, isHex c = true) → hexV l < 16 ^ n
  | 0, l, hl, _ => by rw [List.eq_nil_of_length_eq_zero hl]; simp [hexV]
  | n + 1, l, hl, h => by
    obtain ⟨l', c, rfl⟩ : ∃ l' c, l = l' ++ [c] := by
      have hne : l ≠ [] := by intro e; rw [e] at hl; simp at hl
      exact ⟨l.dropLast, l.getLast hne, (List.dropLast_concat_getLast hne).symm⟩
    rw [hexV_snoc]
    have h1 := hexV_lt n l' (by simpa using hl) (fun d hd => h d (by simp [hd]))
    have h2 := hexD_lt (h c (by simp))
    rw [Nat.pow_succ]; omega

theorem lower_does (c : UInt8) (h1 : 97 ≤ c.toNat) (h2 : c.toNat ≤ 102) : Does Tryz.prog G 197 [.int .u8 c.toNat] [] fun ae _ => ae = .ret (.int .u8 c.toNat) := by
  have h : c.toNat = 97 ∨ c.toNat = 98 ∨ c.toNat = 99 ∨ c.toNat = 100 ∨ c.toNat = 101 ∨ c.toNat = 102 := by omega
  rcases h with h | h | h | h | h | h
  all_goals
    rw [h]
    refine Does.body tab Tryz.func197 rfl rfl ?_
    refine gos ?_
    refine RetW.plain (by simp) ?_
    rfl

theorem iParseUint_does (l : List UInt8) (h0 : l ≠ []) (hl : l.length ≤ 6) (hx : ∀ c ∈ l, isHex c = true) : Does Tryz.prog G 190 [.str l, .int .i64 16, .int .i64 32] [] fun ae _ => ae = .ret (.tuple [.int .u64 (hexV l), .nili]) := by
  refine Does.bodyA tab Tryz.func190 rfl rfl ?_
  refine AC.step tab ?_
  refine gos ?_
  refine AC.step tab ?_
  refine gos ?_
  refine CmpW.f (by simpa using h0) ?_
  refine gos ?_
  refine AC.step tab ?_
  refine gos ?_
  refine AC.step tab ?_
  refine gos ?_
  refine AC.step tab ?_
  refine gos ?_
  refine AC.step tab ?_
  refine gos ?_
  refine AC.step tab ?_
  refine gos ?_
  refine AC.step tab ?_
  refine gos ?_
  refine AC.step tab ?_
  refine gos ?_
  refine And.intro ?_ ?_
  · decide
  refine gos ?_
  refine AC.step tab ?_
  refine gos ?_
  refine AC.step tab ?_
  refine gos ?_
  refine AC.cutF tab (fun e h => e = [.any, .any, .any, .any, .any, .any, .any, .any, .any, .str l, .any, .any, .bool false, .int .u64 (hexV l)] ++ List.replicate 158 .any ∧ h = []) ?_ ?_
  · refine gos ?_
    have hM : IntKind.u64.wrap (IntKind.u64.wrap (1 * 2 ^ min (IntKind.u64.wrap 32).toNat IntKind.u64.bits) - 1) = 4294967295 := by decide
    have hbl : (byteEs l).length = l.length := by simp [byteEs]
    rw [hM, hbl]
    refine AC.loopC tab (fun f e h => ∃ k : Nat, f + k = l.length + 1 ∧ k ≤ l.length ∧
      e = [.any, .int .i64 16, .any, .any, .any, .any, .any, .any, .bool false, .str l, .int .u64 1152921504606846976, .int .u64 4294967295, .bool false, .int .u64 (hexV (l.take k))] ++ List.replicate 85 .any ++ [.fsl (byteEs l), .int .i64 l.length, .int .i64 k] ++ List.replicate 70 .any ∧ h = []) (l.length + 1) ⟨_, fgts, 0, by omega, by omega, rfl, rfl⟩ ?_
    rintro f e h ⟨k, hf, hk, rfl, rfl⟩
    have hn : hexV (l.take k) < 16777216 := by
      have h1 := hexV_lt k (l.take k) (by simp; omega) (fun c hc => hx c (List.mem_of_mem_take hc))
      have h2 : 16 ^ k ≤ 16 ^ 6 := Nat.pow_le_pow_right (by omega) (by omega)
      omega
    refine gos ?_
    by_cases hlt : k < l.length
    · obtain ⟨c, hc⟩ : ∃ c, l[k]? = some c := ⟨_, List.getElem?_eq_getElem hlt⟩
      have hch := hx c (List.mem_of_getElem? hc)
      have hd16 := hexD_lt hch
      have htk : l.take (k + 1) = l.take k ++ [c] := by
        rw [List.take_add_one, hc]; rfl
      refine CmpW.T ?_
      refine gos ?_
      refine And.intro (fun y hy => by obtain ⟨z, _, rfl⟩ := List.mem_map.1 hy; rfl) (And.intro (by omega) ⟨[.int .u8 c.toNat], by rw [Int.toNat_natCast]; simp [byteEs, hc], ?_⟩)
      refine gos ?_
      have hcc := isHex_cases hch
      refine CmpW.f (by simp; omega) ?_
      refine gos ?_
      obtain ⟨n, hnE⟩ : ∃ n, n = hexV (l.take k) := ⟨_, rfl⟩
      rw [← hnE] at hn ⊢
      have hnn : hexV (l.take (k + 1)) = n * 16 + hexD c := by rw [htk, hexV_snoc, hnE]
      have e1 : IntKind.u64.wrap ((n : Int) * IntKind.u64.wrap 16) = ((n * 16 : Nat) : Int) := by
        rw [wrap_u64 (n := 16) (by omega) (by omega), wrap_u64 (by omega) (by omega)]; omega
      have e2 : IntKind.u64.wrap (((n * 16 : Nat) : Int) + IntKind.u64.wrap (hexD c : Int)) = ((n * 16 + hexD c : Nat) : Int) := by
        rw [wrap_u64 (n := (hexD c : Int)) (by omega) (by omega), wrap_u64 (by omega) (by omega)]; omega
      have e16 : IntKind.u8.wrap 16 = 16 := by decide
      rcases hcc with hcc | hcc
      · have e0 : IntKind.u8.wrap ((c.toNat : Int) - 48) = (hexD c : Int) := by
          rw [wrap_u8 (by omega) (by omega)]; unfold hexD; rw [if_pos (by omega)]; omega
        refine CmpW.T ?_
        refine gos ?_
        refine CmpW.T ?_
        refine gos ?_
        rw [e0, e16]
        refine CmpW.N ?_
        refine gos ?_
        refine CmpW.N ?_
        refine gos ?_
        rw [e1, e2]
        refine CmpW.N ?_
        refine gos ?_
        refine CmpW.N ?_
        refine gos ?_
        rw [← hnn]
        exact ⟨f - 1, _, 0, by omega, fgts, k + 1, by omega, by omega, rfl, rfl⟩
      · have e0 : IntKind.u8.wrap (IntKind.u8.wrap ((c.toNat : Int) - 97) + 10) = (hexD c : Int) := by
          rw [wrap_u8 (n := (c.toNat : Int) - 97) (by omega) (by omega), wrap_u8 (by omega) (by omega)]; unfold hexD; rw [if_neg (by omega)]; omega
        have hlw := lower_does (G := G) c hcc.1 hcc.2
        refine CmpW.T ?_
        refine gos ?_
        refine CmpW.N ?_
        refine gos ?_
        refine CallW.pure hlw rfl rfl ?_
        refine gos ?_
        refine CmpW.T ?_
        refine gos ?_
        refine CallW.pure hlw rfl rfl ?_
        refine gos ?_
        refine CmpW.T ?_
        refine gos ?_
        refine CallW.pure hlw rfl rfl ?_
        refine gos ?_
        rw [e0, e16]
        refine CmpW.N ?_
        refine gos ?_
        refine CmpW.N ?_
        refine gos ?_
        rw [e1, e2]
        refine CmpW.N ?_
        refine gos ?_
        refine CmpW.N ?_
        refine gos ?_
        rw [← hnn]
        exact ⟨f - 1, _, 0, by omega, fgts, k + 1, by omega, by omega, rfl, rfl⟩
    · refine CmpW.N ?_
      refine gos ?_
      have : k = l.length := by omega
      subst this
      rw [List.take_length]
      exact ⟨_, 0, fgts, rfl, rfl⟩
  rintro e h ⟨rfl, rfl⟩
  refine AC.go tab ?_
  refine gos ?_
  refine RetW.plain (by simp) ?_
  rfl

end Go.Proofs.YtpipbjfcbbdicaaGreatDoor

namespace Go.Proofs.YtpipbjfcbbdicaaGreatDoor
open Go Go.Abs
attribute [local irreducible] DrawW CallW RetW AC Does CmpW
variable {G : Globs}

theorem iParseInt_does (l : List UInt8) (h0 : l ≠ []) (hl : l.length ≤ 6) (hx : ∀ c ∈ l, isHex c = true) : Does Tryz.prog G 181 [.str l, .int .i64 16, .int .i64 32] [] fun ae _ => ae = .ret (.tuple [.int .i64 (hexV l), .nili]) := by
  obtain ⟨c, hc⟩ : ∃ c, l[0]? = some c := ⟨_, List.getElem?_eq_getElem (List.length_pos_iff.2 h0)⟩
  have hch := hx c (List.mem_of_getElem? hc)
  have hcc := isHex_cases hch
  have hv : hexV l < 16777216 := by
    have h1 := hexV_lt l.length l rfl hx
    have h2 : 16 ^ l.length ≤ 16 ^ 6 := Nat.pow_le_pow_right (by omega) hl
    omega
  refine Does.bodyA tab Tryz.func181 rfl rfl ?_
  refine AC.step tab ?_
  refine gos ?_
  refine AC.step tab ?_
  refine gos ?_
  refine CmpW.f (by simpa using h0) ?_
  refine gos ?_
  refine AC.step tab ?_
  refine gos ?_
  refine AC.step tab ?_
  refine gos ?_
  refine And.intro (by decide) ⟨c, hc, ?_⟩
  refine gos ?_
  refine CmpW.f (by simp; omega) ?_
  refine gos ?_
  refine CmpW.f (by simp; omega) ?_
  refine gos ?_
  refine AC.step tab ?_
  refine gos ?_
  refine AC.step tab ?_
  refine gos ?_
  refine CallW.pure (iParseUint_does l h0 hl hx) rfl rfl ?_
  refine gos ?_
  refine AC.step tab ?_
  refine gos ?_
  refine AC.step tab ?_
  refine gos ?_
  refine AC.step tab ?_
  refine gos ?_
  refine And.intro ?_ ?_
  · decide
  refine gos ?_
  refine AC.step tab ?_
  refine gos ?_
  have hC : IntKind.u64.wrap (1 * 2 ^ min (IntKind.u64.wrap (32 - 1)).toNat IntKind.u64.bits) = 2147483648 := by decide
  rw [hC]
  refine CmpW.N ?_
  refine gos ?_
  refine AC.step tab ?_
  refine gos ?_
  refine AC.step tab ?_
  refine gos ?_
  have hW : IntKind.i64.wrap (hexV l : Int) = (hexV l : Int) := wrap_i64 (by omega) (by omega)
  refine AC.step tab ?_
  refine gos ?_
  refine AC.go tab ?_
  refine gos ?_
  refine RetW.plain (by simp) ?_
  first | rfl | (rw [hW])
theorem ParseInt_does (l : List UInt8) (h0 : l ≠ []) (hl : l.length ≤ 6) (hx : ∀ c ∈ l, isHex c = true) : Does Tryz.prog G 167 [.str l, .int .i64 16, .int .i64 32] [] fun ae _ => ae = .ret (.tuple [.int .i64 (hexV l), .nili]) := by
  refine Does.body tab Tryz.func167 rfl rfl ?_
  refine gos ?_
  refine CallW.pure (iParseInt_does l h0 hl hx) rfl rfl ?_
  refine gos ?_
  refine RetW.plain (by simp) ?_
  rfl
end Go.Proofs.YtpipbjfcbbdicaaGreatDoor
