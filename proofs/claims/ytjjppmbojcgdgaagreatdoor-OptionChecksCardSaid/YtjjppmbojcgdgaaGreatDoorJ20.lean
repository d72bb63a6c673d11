/- The reader of rules: categories, samples. -/
import Derived.Test.YtjjppmbojcgdgaaGreatDoorJ19
import Derived.Test.YtjjppmbojcgdgaaGreatDoorJ18
import Derived.Test.YtjjppmbojcgdgaaGreatDoorJ12
set_option linter.unusedVariables false
set_option linter.unusedSimpArgs false
set_option maxRecDepth 100000
set_option maxHeartbeats 4000000

namespace Go.Proofs.YtjjppmbojcgdgaaGreatDoor
open Go Go.Abs
attribute [local irreducible] DrawW CallW RetW AC Does CmpW
variable {G : Globs}
def catG (l : List TTxt) (i : Nat) : Bool := match l[i]? with
  | some x => decide (0 ≤ x.cat) && (decide (i = 0) || match l[i - 1]? with
    | some y => decide (y.cat < x.cat)
    | none => false)
  | none => false
def lastC (l : List TTxt) : Bool := match l.getLast? with
  | some x => decide (x.cat = 5)
  | none => false
def catsF (l : List TTxt) (ok : Nat → Bool) : Bool := lastC l && allB (fun i => catG l i && ok i) l.length
theorem cats1_does (l : List TTxt) (hl : l.length < 100000) (i : Nat) (x : TTxt) (hx : l[i]? = some x) (fid : FuncId) (cap : List AV) (hcap : closedL cap = true) (r : Bool)
    (hok : Does Tryz.prog G fid ([] ++ [.str x.text] ++ cap) [] fun ae _ => ae = .ret (.bool r)) :
    Does Tryz.prog G 184 ([] ++ [.int .i64 (i : Nat), .agg (encT x)] ++ [.fptr [txtL l], .fptr [.func (.func fid) [] cap]]) [] fun ae _ => ae = .ret (.bool (catG l i && r)) := by
  have hlt := (List.getElem?_eq_some_iff.1 hx).1
  refine Does.body tab Tryz.func184 rfl rfl ?_
  refine gos ?_
  intro v1
  refine gos ?_
  refine DrawW.L ?_
  refine gos ?_
  have hG : catG l i = (decide (0 ≤ x.cat) && (decide (i = 0) || match l[i - 1]? with
    | some y => decide (y.cat < x.cat)
    | none => false)) := by unfold catG; rw [hx]
  by_cases h0 : 0 ≤ x.cat
  case neg =>
    refine CmpW.N ?_
    refine gos ?_
    refine RetW.plain (by simp) ?_
    rw [hG]; simp [h0]
  refine CmpW.T ?_
  refine gos ?_
  by_cases hi : i = 0
  · refine CmpW.T ?_
    refine gos ?_
    refine CallW.pure hok (by simp [closedL, closed, hcap]) rfl ?_
    refine gos ?_
    refine RetW.plain (by simp) ?_
    rw [hG]; simp [h0, hi]
  refine CmpW.N ?_
  refine gos ?_
  obtain ⟨y, hy⟩ : ∃ y, l[i - 1]? = some y := ⟨_, List.getElem?_eq_getElem (by omega)⟩
  rw [show (i : Int) - 1 = ((i - 1 : Nat) : Int) by omega]
  refine And.intro (encT_two l) (And.intro (by omega) ⟨encT y, map_get hy, ?_⟩)
  refine gos ?_
  by_cases hc : y.cat < x.cat
  · refine CmpW.T ?_
    refine gos ?_
    refine CallW.pure hok (by simp [closedL, closed, hcap]) rfl ?_
    refine gos ?_
    refine RetW.plain (by simp) ?_
    rw [hG, hy]; simp [h0, hi, hc]
  · refine CmpW.N ?_
    refine gos ?_
    refine RetW.plain (by simp) ?_
    rw [hG, hy]; simp [h0, hi, hc]
theorem last_get {l : List TTxt} {y : TTxt} (h : l[l.length - 1]? = some y) : lastC l = decide (y.cat = 5) := by
  unfold lastC; rw [List.getLast?_eq_getElem?, h]
theorem cats_does (l : List TTxt) (hl : l.length < 100000) (fid : FuncId) (cap : List AV) (hcap : closedL cap = true) (ok : Nat → Bool)
    (hok : ∀ (i : Nat) (x : TTxt), l[i]? = some x → Does Tryz.prog G fid ([] ++ [.str x.text] ++ cap) [] fun ae _ => ae = .ret (.bool (ok i))) :
    Does Tryz.prog G 100 [txtL l, .func (.func fid) [] cap] [] fun ae _ => ae = .ret (.bool (catsF l ok)) := by
  have ll : (l.map encT).length = l.length := by simp
  refine Does.bodyA tab Tryz.func100 rfl rfl ?_
  refine AC.step tab ?_
  refine gos ?_
  intro v1
  refine gos ?_
  intro v2
  refine gos ?_
  refine AC.wk (Wk.ptr (k := 2) (i := 0) rfl rfl rfl rfl rfl) ?_
  refine AC.wk (Wk.ptr (k := 3) (i := 1) rfl rfl rfl rfl (by simp [closedLL, closedL, closed, hcap])) ?_
  refine AC.step tab ?_
  refine gos ?_
  rw [ll]
  by_cases h0 : l.length = 0
  · have h0' : l = [] := List.eq_nil_of_length_eq_zero h0
    refine CmpW.T ?_
    refine gos ?_
    refine RetW.plain (by simp) ?_
    subst h0'
    rfl
  refine CmpW.N ?_
  refine gos ?_
  obtain ⟨y, hy⟩ : ∃ y, l[l.length - 1]? = some y := ⟨_, List.getElem?_eq_getElem (by omega)⟩
  rw [ll, show (l.length : Int) - 1 = ((l.length - 1 : Nat) : Int) by omega]
  refine gos ?_
  refine And.intro (encT_two l) (And.intro (by omega) ⟨encT y, map_get hy, ?_⟩)
  refine gos ?_
  have hL := last_get hy
  by_cases h5 : y.cat = 5
  case neg =>
    refine CmpW.t (by simpa using h5) ?_
    refine gos ?_
    refine RetW.plain (by simp) ?_
    rw [catsF, hL]; simp [h5]
  refine CmpW.f (by simpa using h5) ?_
  refine gos ?_
  refine AC.go tab ?_
  refine gos ?_
  refine CallW.pure (evT_does l (fun i => catG l i && ok i) 184 [.fptr [txtL l], .fptr [.func (.func fid) [] cap]] rfl hl fun i x hx => cats1_does l hl i x hx fid cap hcap (ok i) (hok i x hx)) rfl rfl ?_
  refine gos ?_
  refine RetW.plain (by simp) ?_
  rw [catsF, hL]; simp [h5]
def plcOk (n : Int) (s : List UInt8) : Bool := match braF s n with
  | .ok _ => decide (s.length ≤ 60)
  | .error _ => false
theorem braF_bad {s : List UInt8} {n : Int} {e : Int × Nat} (h : braF s n = .error e) : e.1 = 1 ∨ e.1 = 3 := by
  unfold braF at h
  split at h
  · simp at h; subst h; exact .inl rfl
  have key : ∀ (f i : Nat) (seen : List Nat) (B : Bra) (e : Int × Nat), braL s n f i seen B = .error e → e.1 = 1 ∨ e.1 = 3 := by
    intro f
    induction f with
    | zero => intro i seen B e h; simp [braL] at h
    | succ f ih =>
      intro i seen B e h
      unfold braL at h
      split at h
      · cases h
      split at h
      · simp at h; subst h; exact .inl rfl
      split at h
      · split at h
        · simp at h; subst h; exact .inl rfl
        split at h
        · simp at h; subst h; exact .inr rfl
        · exact ih _ _ _ _ h
      · exact ih _ _ _ _ h
  split at h
  · rename_i r hr
    simp at h; subst h
    exact key _ _ _ _ _ hr
  · split at h
    · simp at h; subst h; exact .inr rfl
    · cases h
theorem places1_does (m : Int) (s : List UInt8) (n : Int) (hs : s.length < 100000) (hn : -9223372036854775808 ≤ n ∧ n ≤ 9223372036854775807) :
    Does Tryz.prog (GL m) 185 ([] ++ [.str s] ++ [.fptr [.int .i64 n]]) [] fun ae _ => ae = .ret (.bool (plcOk n s)) := by
  refine Does.bodyA tab Tryz.func185 rfl rfl ?_
  refine AC.step tab ?_
  refine gos ?_
  refine AC.step tab ?_
  refine gos ?_
  have dB := BParse_does m s n hs hn
  cases hE : braF s n with
  | error e =>
    have hb := braF_bad hE
    rw [hE] at dB
    refine CallW.pure dB rfl rfl ?_
    (repeat (first | refine gof ?_ | refine fun (vv : Nat) => ?_))
    refine AC.go tab ?_
    refine gos ?_
    refine CmpW.f (by simp; omega) ?_
    refine gos ?_
    refine RetW.plain (by simp) ?_
    simp [plcOk, hE]
  | ok q =>
    obtain ⟨ts, ps⟩ := q
    rw [hE] at dB
    refine CallW.pure dB rfl rfl ?_
    (repeat (first | refine gof ?_ | refine fun (vv : Nat) => ?_))
    refine AC.go tab ?_
    refine gos ?_
    refine CmpW.s ?_
    refine gos ?_
    refine RetW.plain (by simp) ?_
    simp only [plcOk, hE]
    congr 2
    rw [Bool.eq_iff_iff]; simp; omega
def plcV (n : Int) : AV := .func (.func 185) [] [.fptr [.int .i64 n]]
theorem places_does (n : Int) : Does Tryz.prog G 101 [.int .i64 n] [] fun ae _ => ae = .ret (plcV n) := by
  refine Does.bodyA tab Tryz.func101 rfl rfl ?_
  refine AC.step tab ?_
  refine gos ?_
  intro v1
  refine gos ?_
  refine AC.wk (Wk.ptr (k := 1) (i := 0) rfl rfl rfl rfl rfl) ?_
  refine AC.go tab ?_
  refine gos ?_
  refine RetW.plain (by simp) ?_
  rfl
end Go.Proofs.YtjjppmbojcgdgaaGreatDoor

namespace Go.Proofs.YtjjppmbojcgdgaaGreatDoor
open Go Go.Abs
attribute [local irreducible] DrawW CallW RetW AC Does CmpW
variable {G : Globs}
structure FS where
  z : Nat
  nb : Bool
  x : Aff
  two : Bool
  N : Num
def FS.ok (q : FS) : Prop := q.x.ok
def FS.cells (q : FS) : List AV := .int .i64 (q.z : Int) :: .bool q.nb :: patCells q.x q.two q.N
def fsO (ver : Nat) (q : FS) : AObj := ⟨ver, 222, 13, [q.cells]⟩
def fs0 : FS := ⟨0, false, ⟨.nils, .nils, .nils, .nils⟩, false, Num.zero⟩
def fsV (v : PatV) : FS := ⟨v.N.mi, noopF v, affV v, v.two, v.N⟩
theorem fs0_ok : fs0.ok := ⟨rfl, rfl, rfl, rfl⟩
theorem fsV_ok (v : PatV) : (fsV v).ok := by
  obtain ⟨p, q, p', q', two, N⟩ := v
  cases two <;> exact ⟨rfl, rfl, rfl, rfl⟩
theorem fsO_closed {ver : Nat} {q : FS} (h : q.ok) : closedLL (fsO ver q).es = true := by
  obtain ⟨h1, h2, h3, h4⟩ := h
  simp [fsO, closedLL, closedL, FS.cells, patCells, closed, h1, h2, h3, h4]
def clash (q : FS) (v : PatV) : Bool := decide (0 < q.z) && (decide (v.N.mi ≠ q.z) || decide (noopF v ≠ q.nb))
def rowS (q : FS) (s : List UInt8) : FS := match cpaE s with
  | .error _ => q
  | .ok v => if clash q v then q else fsV v
def rowR (q : FS) (cur : Int) (s : List UInt8) : Bool := match cpaE s with
  | .error _ => false
  | .ok v => !clash q v && (decide (s.length ≤ 60) && (noopF v || sdsF v cur 0))
theorem cpaE_bad {s : List UInt8} {e : Int × Int} (h : cpaE s = .error e) : e.1 = 1 ∨ e.1 = 2 ∨ e.1 = 3 := by
  unfold cpaE at h
  split at h
  · rename_i x hx
    simp at h; subst h
    rcases parE_bad hx with h | h
    · exact .inl h
    · exact .inr (.inl h)
  · split at h
    · simp at h; subst h; exact .inr (.inr rfl)
    · cases h
theorem row1_does (m : Int) (q : FS) (hq : q.ok) (ver : Nat) (cur : Int) (s : List UInt8) (hs : s.length < 100000) :
    Does Tryz.prog (GL m) 236 ([] ++ [.str s] ++ [.ptr 0 ver 0 0, .fptr [.int .i64 cur]]) [some (fsO ver q)] fun ae O => ae = .ret (.bool (rowR q cur s)) ∧ O = [some (fsO ver (rowS q s))] := by
  have dP := CParse_does (m := m) s hs
  refine Does.bodyA tab Tryz.func236 rfl rfl ?_
  refine AC.step tab ?_
  refine gos ?_
  refine AC.step tab ?_
  refine gos ?_
  cases hE : cpaE s with
  | error e =>
    have hb := cpaE_bad hE
    rw [hE] at dP
    refine CallW.pure dP rfl rfl ?_
    (repeat (first | refine gof ?_ | refine fun (vv : Nat) => ?_))
    refine AC.step tab ?_
    refine gos ?_
    refine CmpW.t (by simp; omega) ?_
    refine gos ?_
    refine RetW.plain (by simp) ?_
    simp [rowR, rowS, hE]
  | ok v =>
    have hv := cpaE_small hE
    have dS := vsides_does (G := GL m) v hv cur 0
    have hR : rowR q cur s = (!clash q v && (decide (s.length ≤ 60) && (noopF v || sdsF v cur 0))) := by simp [rowR, hE]
    have hS : rowS q s = if clash q v then q else fsV v := by simp [rowS, hE]
    rw [hE] at dP
    rw [hR, hS]
    have hcl : clash q v = (decide (0 < q.z) && (decide (v.N.mi ≠ q.z) || decide (noopF v ≠ q.nb))) := rfl
    have hfV : fsV v = ⟨v.N.mi, noopF v, affV v, v.two, v.N⟩ := rfl
    unfold cpaV encC at dP
    simp only at dP
    rw [hfV]
    generalize sdsF v cur 0 = SD at dS ⊢
    generalize noopF v = nv at dP hcl ⊢
    generalize clash q v = cl at hcl ⊢
    clear hR hS hE hfV hv
    obtain ⟨p, r, p', r', two, N⟩ := v
    obtain ⟨z, nb, x0, tw, N0⟩ := q
    simp only at hcl
    obtain ⟨FV, hFV⟩ : ∃ FV : FS, FV = ⟨N.mi, nv, affV ⟨p, r, p', r', two, N⟩, two, N⟩ := ⟨_, rfl⟩
    have hEq : (⟨N.mi, nv, affV ⟨p, r, p', r', two, N⟩, two, N⟩ : FS) = FV := hFV.symm
    rw [hEq]
    clear hEq
    cases two
    all_goals
      refine CallW.pure dP rfl rfl ?_
      (repeat (first | refine gof ?_ | refine fun (vv : Nat) => ?_))
      refine AC.cutF tab (fun e h => cl = false ∧ e = [.str s, .ptr 0 ver 0 0, .fptr [.int .i64 cur], .any, .any, .ptr 1 vv 0 0] ++ List.replicate 43 .any ∧
        h = [some (fsO ver ⟨z, nb, x0, tw, N0⟩), some (fsO vv FV)]) ?_ ?_
      · subst hFV
        refine gos ?_
        by_cases h1 : 0 < z
        case neg =>
          refine CmpW.f (by simp; omega) ?_
          refine gos ?_
          have : cl = false := by rw [hcl]; simp [h1]
          exact ⟨_, 2, fgts, this, rfl, rfl⟩
        refine CmpW.t (by simp; omega) ?_
        refine gos ?_
        by_cases h2 : N.mi = z
        case neg =>
          refine CmpW.t (by simp; omega) ?_
          refine gos ?_
          have : cl = true := by rw [hcl]; simp [h1, h2]
          refine RetW.plain (by simp) ?_
          rw [this]
          exact ⟨rfl, rfl⟩
        refine CmpW.f (by simp; omega) ?_
        refine gos ?_
        cases nv <;> cases nb
        · refine gos ?_
          have : cl = false := by rw [hcl]; simp [h1, h2]
          exact ⟨_, 2, fgts, this, rfl, rfl⟩
        · refine gos ?_
          have : cl = true := by rw [hcl]; simp [h1]
          refine RetW.plain (by simp) ?_
          rw [this]
          exact ⟨rfl, rfl⟩
        · refine gos ?_
          have : cl = true := by rw [hcl]; simp [h1]
          refine RetW.plain (by simp) ?_
          rw [this]
          exact ⟨rfl, rfl⟩
        · refine gos ?_
          have : cl = false := by rw [hcl]; simp [h1, h2]
          exact ⟨_, 2, fgts, this, rfl, rfl⟩
      rintro e h ⟨rfl, rfl, rfl⟩
      subst hFV
      refine AC.step tab ?_
      refine gos ?_
      refine AC.go tab ?_
      refine gos ?_
      by_cases h60 : s.length ≤ 60
      case neg =>
        refine CmpW.N ?_
        refine gos ?_
        refine RetW.plain (by simp) ?_
        exact ⟨by simp [h60], rfl⟩
      refine CmpW.T ?_
      cases nv with
      | true =>
        refine gos ?_
        refine RetW.plain (by simp) ?_
        exact ⟨by simp [h60], rfl⟩
      | false =>
        refine gos ?_
        refine CallW.pure dS rfl rfl ?_
        refine gos ?_
        refine RetW.plain (by simp) ?_
        exact ⟨by simp [h60], rfl⟩
end Go.Proofs.YtjjppmbojcgdgaaGreatDoor

namespace Go.Proofs.YtjjppmbojcgdgaaGreatDoor
open Go Go.Abs
attribute [local irreducible] DrawW CallW RetW AC Does CmpW
variable {G : Globs}
def tlO (vl : Nat) (l : List TTxt) : AObj := ⟨vl, 61, 1, [[txtL l]]⟩
def fnO (vo : Nat) (fid : FuncId) (va : Nat) (cs : List AV) : AObj := ⟨vo, 119, 1, [[.func (.func fid) [] [.ptr 0 va 0 0, .fptr cs]]]⟩
theorem cats1S_does (l : List TTxt) (hl : l.length < 100000) (i : Nat) (x : TTxt) (hx : l[i]? = some x) (vl vo va : Nat) (fid : FuncId) (cs : List AV) (A A' : AObj) (hA : closedLL A.es = true) (hA' : closedLL A'.es = true) (r : Bool)
    (hok : catG l i = true → Does Tryz.prog G fid ([] ++ [.str x.text] ++ [.ptr 0 va 0 0, .fptr cs]) [some A] fun ae O => ae = .ret (.bool r) ∧ O = [some A']) (hno : catG l i = false → A' = A) :
    Does Tryz.prog G 184 ([] ++ [.int .i64 (i : Nat), .agg (encT x)] ++ [.ptr 1 vl 0 0, .ptr 2 vo 0 0]) [some A, some (tlO vl l), some (fnO vo fid va cs)] fun ae O => ae = .ret (.bool (catG l i && r)) ∧ O = [some A', some (tlO vl l), some (fnO vo fid va cs)] := by
  have hlt := (List.getElem?_eq_some_iff.1 hx).1
  have hG : catG l i = (decide (0 ≤ x.cat) && (decide (i = 0) || match l[i - 1]? with
    | some y => decide (y.cat < x.cat)
    | none => false)) := by
    unfold catG; rw [hx] <;> rfl
  refine Does.body tab Tryz.func184 rfl rfl ?_
  refine gos ?_
  intro v1
  refine gos ?_
  refine DrawW.L ?_
  refine gos ?_
  by_cases h0 : 0 ≤ x.cat
  case neg =>
    have hf : catG l i = false := by rw [hG]; simp [h0]
    refine CmpW.N ?_
    refine gos ?_
    refine RetW.plain (by simp) ?_
    rw [hf, hno hf]
    exact ⟨rfl, rfl⟩
  refine CmpW.T ?_
  refine gos ?_
  by_cases hi : i = 0
  · have ht : catG l i = true := by rw [hG]; simp [h0, hi]
    refine CmpW.T ?_
    refine gos ?_
    refine CallW.meth 0 (hok ht) rfl rfl rfl hA hA' rfl ?_
    refine gos ?_
    refine RetW.plain (by simp) ?_
    rw [ht]
    exact ⟨rfl, rfl⟩
  refine CmpW.N ?_
  refine gos ?_
  obtain ⟨y, hy⟩ : ∃ y, l[i - 1]? = some y := ⟨_, List.getElem?_eq_getElem (by omega)⟩
  rw [show (i : Int) - 1 = ((i - 1 : Nat) : Int) by omega]
  refine And.intro (encT_two l) (And.intro (by omega) ⟨encT y, map_get hy, ?_⟩)
  refine gos ?_
  by_cases hc : y.cat < x.cat
  · have ht : catG l i = true := by rw [hG, hy]; simp [h0, hc]
    refine CmpW.T ?_
    refine gos ?_
    refine CallW.meth 0 (hok ht) rfl rfl rfl hA hA' rfl ?_
    refine gos ?_
    refine RetW.plain (by simp) ?_
    rw [ht]
    exact ⟨rfl, rfl⟩
  · have hf : catG l i = false := by rw [hG, hy]; simp [h0, hi, hc]
    refine CmpW.N ?_
    refine gos ?_
    refine RetW.plain (by simp) ?_
    rw [hf, hno hf]
    exact ⟨rfl, rfl⟩
theorem closedLL_inside {n : Nat} {es : List (List AV)} (h : closedLL es = true) : insideLL n es = true := insideLL_closed _ _ h
theorem catsS_does (l : List TTxt) (hl : l.length < 100000) (va : Nat) (fid : FuncId) (cs : List AV) (A : Nat → AObj) (hA : ∀ i, closedLL (A i).es = true) (ok : Nat → Bool)
    (hok : ∀ (i : Nat) (x : TTxt), l[i]? = some x → catG l i = true → Does Tryz.prog G fid ([] ++ [.str x.text] ++ [.ptr 0 va 0 0, .fptr cs]) [some (A i)] fun ae O => ae = .ret (.bool (ok i)) ∧ O = [some (A (i + 1))])
    (hno : ∀ i, catG l i = false → A (i + 1) = A i) :
    Does Tryz.prog G 100 [txtL l, .func (.func fid) [] [.ptr 0 va 0 0, .fptr cs]] [some (A 0)] fun ae O => ae = .ret (.bool (catsF l ok)) ∧ ∃ k, k ≤ l.length ∧ O = [some (A k)] ∧ (catsF l ok = true → k = l.length) := by
  have ll : (l.map encT).length = l.length := by simp
  refine Does.bodyA tab Tryz.func100 rfl rfl ?_
  refine AC.step tab ?_
  refine gos ?_
  intro v1
  refine gos ?_
  intro v2
  refine gos ?_
  refine AC.step tab ?_
  refine gos ?_
  rw [ll]
  by_cases h0 : l.length = 0
  · have h0' : l = [] := List.eq_nil_of_length_eq_zero h0
    refine CmpW.T ?_
    refine gos ?_
    refine RetW.plain (by simp) ?_
    subst h0'
    exact ⟨rfl, 0, by omega, rfl, fun _ => rfl⟩
  refine CmpW.N ?_
  refine gos ?_
  obtain ⟨y, hy⟩ : ∃ y, l[l.length - 1]? = some y := ⟨_, List.getElem?_eq_getElem (by omega)⟩
  rw [ll, show (l.length : Int) - 1 = ((l.length - 1 : Nat) : Int) by omega]
  refine gos ?_
  refine And.intro (encT_two l) (And.intro (by omega) ⟨encT y, map_get hy, ?_⟩)
  refine gos ?_
  have hL := last_get hy
  by_cases h5 : y.cat = 5
  case neg =>
    have hC : catsF l ok = false := by rw [catsF, hL]; simp [h5]
    refine CmpW.t (by simpa using h5) ?_
    refine gos ?_
    refine RetW.plain (by simp) ?_
    rw [hC]
    exact ⟨rfl, 0, by omega, rfl, fun h => by cases h⟩
  have hC : catsF l ok = allB (fun i => catG l i && ok i) l.length := by rw [catsF, hL]; simp [h5]
  refine CmpW.f (by simpa using h5) ?_
  refine gos ?_
  refine AC.go tab ?_
  refine gos ?_
  have dE := evS_does (G := G) l (fun i => catG l i && ok i) A 184 v1 v2 (tlO v1 l) (fnO v2 fid va cs) rfl rfl hl (fun i => closedLL_inside (hA i)) fun i x hx _ => cats1S_does l hl i x hx v1 v2 va fid cs (A i) (A (i + 1)) (hA i) (hA (i + 1)) (ok i) (fun h => hok i x hx h) (fun h => hno i h)
  refine CallW.fst 3 (by simp) dE rfl (by simp [insideO, closedLL_inside (hA 0), insideLL, insideL, inside, tlO, fnO, txtL]) ?_
  rintro ae O ⟨rfl, k, hk, rfl, hkl⟩ _
  refine ⟨rfl, by simp [insideO, closedLL_inside (hA k), insideLL, insideL, inside, tlO, fnO, txtL], ?_⟩
  refine gos ?_
  refine RetW.plain (by simp) ?_
  rw [hC]
  exact ⟨rfl, k, hk, rfl, hkl⟩
def shiftF (q : FS) (mag : Int) : Int := if q.nb then 0 else IntKind.i64.wrap (IntKind.i64.wrap (mag - q.z) + 1)
def FS.fit (q : FS) : Prop := q.x = ⟨.nils, .nils, .nils, .nils⟩ ∨ ∃ v : PatV, q.x = affV v
theorem fs0_fit : fs0.fit := .inl rfl
theorem rowS_fit {q : FS} (h : q.fit) (s : List UInt8) : (rowS q s).fit := by
  unfold rowS
  split
  · exact h
  · split
    · exact h
    · exact .inr ⟨_, rfl⟩
theorem fit_ok {q : FS} (h : q.fit) : q.ok := by
  unfold FS.ok
  rcases h with h | ⟨v, h⟩
  · rw [h]; exact ⟨rfl, rfl, rfl, rfl⟩
  · rw [h]; exact fsV_ok v
theorem Shift_does (q : FS) (hq : q.fit) (mag : Int) : Does Tryz.prog G 122 [.agg q.cells, .int .i64 mag] [] fun ae _ => ae = .ret (.int .i64 (shiftF q mag)) := by
  obtain ⟨z, nb, x, two, N⟩ := q
  have h3 : x = ⟨.nils, .nils, .nils, .nils⟩ ∨ (∃ a b, x = ⟨encL a, encL b, .nils, .nils⟩) ∨ (∃ a b c d, x = ⟨encL a, encL b, encL c, encL d⟩) := by
    rcases hq with h | ⟨⟨p, q, p', q', two, N⟩, h⟩
    · exact .inl h
    · simp only at h
      cases two
      · exact .inr (.inl ⟨p, q, h⟩)
      · exact .inr (.inr ⟨p, q, p', q', h⟩)
  clear hq
  refine Does.body tab Tryz.func122 rfl rfl ?_
  rcases h3 with rfl | ⟨a, b, rfl⟩ | ⟨a, b, c, d, rfl⟩ <;> cases nb
  all_goals
    refine gos ?_
    intro v1
    refine gos ?_
    refine RetW.plain (by simp) ?_
    rfl
def rowA (cur : Int) (l : List TTxt) : Nat → FS
  | 0 => fs0
  | i + 1 => if catG l i then (match l[i]? with
      | some x => rowS (rowA cur l i) x.text
      | none => rowA cur l i) else rowA cur l i
theorem rowA_fit (cur : Int) (l : List TTxt) : ∀ i, (rowA cur l i).fit
  | 0 => fs0_fit
  | i + 1 => by
    unfold rowA
    split
    · split
      · exact rowS_fit (rowA_fit cur l i) _
      · exact rowA_fit cur l i
    · exact rowA_fit cur l i
def rowK (cur : Int) (l : List TTxt) (i : Nat) : Bool := match l[i]? with
  | some x => rowR (rowA cur l i) cur x.text
  | none => false
def rowB (cur : Int) (r : TRow) : Bool := inF r.mag 0 100 && catsF r.texts (rowK cur r.texts)
def rowH (cur : Int) (r : TRow) : Int := shiftF (rowA cur r.texts r.texts.length) r.mag
theorem row_does (m : Int) (r : TRow) (cur : Int) (hl : r.texts.length < 100000) (ht : ∀ x ∈ r.texts, x.text.length < 100000) :
    Does Tryz.prog (GL m) 180 [.agg (encR r), .int .i64 cur] [] fun ae _ => ∃ n, ae = .ret (.tuple [.int .i64 n, .bool (rowB cur r)]) ∧ (rowB cur r = true → n = rowH cur r) := by
  refine Does.bodyA tab Tryz.func180 rfl rfl ?_
  refine AC.step tab ?_
  refine gos ?_
  intro v1
  refine gos ?_
  intro v2
  refine gos ?_
  refine AC.wk (Wk.ptr (k := 2) (i := 0) rfl rfl rfl rfl rfl) ?_
  refine AC.wk (Wk.ptr (k := 3) (i := 1) rfl rfl rfl rfl rfl) ?_
  refine AC.step tab ?_
  refine gos ?_
  intro v3
  refine gos ?_
  refine AC.cutF tab (fun e h => ∃ q : FS, q.fit ∧ (rowB cur r = true → q = rowA cur r.texts r.texts.length) ∧ e = [.any, .any, .fptr (encR r), .fptr [.int .i64 cur], .any, .any, .ptr 2 v3 0 0, .bool (rowB cur r)] ++ List.replicate 14 .any ∧ h = [none, none, some (fsO v3 q)]) ?_ ?_
  · refine gos ?_
    refine CallW.pure (vin_does r.mag 0 100) rfl rfl ?_
    cases hin : inF r.mag 0 100 with
    | false =>
      have hB : rowB cur r = false := by simp [rowB, hin]
      refine gos ?_
      rw [hB]
      exact ⟨_, 3, fgts, fs0, fs0_fit, fun h => by (cases h), rfl, rfl⟩
    | true =>
      have hB : rowB cur r = catsF r.texts (rowK cur r.texts) := by simp [rowB, hin]
      refine gos ?_
      have dC := catsS_does (G := GL m) r.texts hl v3 236 [.int .i64 cur] (fun i => fsO v3 (rowA cur r.texts i)) (fun i => fsO_closed (fit_ok (rowA_fit cur r.texts i))) (rowK cur r.texts)
        (fun i x hx hg => by
          have h1 := row1_does m (rowA cur r.texts i) (fit_ok (rowA_fit cur r.texts i)) v3 cur x.text (ht x (List.mem_of_getElem? hx))
          have e1 : rowK cur r.texts i = rowR (rowA cur r.texts i) cur x.text := by simp [rowK, hx]
          have e2 : rowA cur r.texts (i + 1) = rowS (rowA cur r.texts i) x.text := by simp [rowA, hg, hx]
          simp only [e1, e2]
          exact h1)
        (fun i hg => by simp [rowA, hg])
      refine CallW.of1 2 dC rfl (fsO_closed fs0_ok) rfl rfl ?_
      rintro ae O ⟨rfl, k, hk, rfl, hkl⟩
      refine ⟨_, rfl, fsO_closed (fit_ok (rowA_fit cur r.texts k)), rfl, ?_⟩
      refine gos ?_
      rw [hB]
      exact ⟨_, 3, fgts, rowA cur r.texts k, rowA_fit cur r.texts k, fun h => by rw [hkl h], rfl, rfl⟩
  rintro e h ⟨q, hq, hqe, rfl, rfl⟩
  refine AC.go tab ?_
  refine gos ?_
  refine CallW.pure (Shift_does q hq r.mag) ?_ rfl ?_
  · obtain ⟨h1, h2, h3, h4⟩ := fit_ok hq
    simp [closedL, closed, h1, h2, h3, h4]
  refine gos ?_
  refine RetW.plain (by simp) ?_
  exact ⟨_, rfl, fun h => by rw [hqe h]; rfl⟩
end Go.Proofs.YtjjppmbojcgdgaaGreatDoor

namespace Go.Proofs.YtjjppmbojcgdgaaGreatDoor
open Go Go.Abs
attribute [local irreducible] DrawW CallW RetW AC Does CmpW
def rowLast (cur : Int) (l : List TRow) : Nat → Int
  | 0 => 0
  | i + 1 => match l[i]? with
    | some x => rowH cur x
    | none => 0
def rowP (cur : Int) (l : List TRow) (i : Nat) : Bool := match l[i]? with
  | some x => rowB cur x && (decide (rowLast cur l i ≤ rowH cur x) && (decide (i = 0) || match l[i - 1]? with
    | some y => decide (y.mag < x.mag)
    | none => false))
  | none => false
def rowsF (l : List TRow) (cur : Int) : Bool := decide (l.length ≤ 16) && allB (rowP cur l) l.length
def TRow.fits (r : TRow) : Prop := r.texts.length < 100000 ∧ ∀ x ∈ r.texts, x.text.length < 100000
def nO (ver : Nat) (n : Int) : AObj := ⟨ver, 3, 1, [[.int .i64 n]]⟩
theorem rows1_does (m : Int) (l : List TRow) (cur : Int) (hl : l.length < 100000) (hf : ∀ r ∈ l, r.fits) (ver : Nat) (i : Nat) (x : TRow) (hx : l[i]? = some x) :
    Does Tryz.prog (GL m) 179 ([] ++ [.int .i64 (i : Nat), .agg (encR x)] ++ [.fptr [.int .i64 cur], .ptr 0 ver 0 0, .fptr [rowL l]]) [some (nO ver (rowLast cur l i))] fun ae O =>
      ae = .ret (.bool (rowP cur l i)) ∧ ∃ o, O = [some o] ∧ closedLL o.es = true ∧ (rowP cur l i = true → o = nO ver (rowLast cur l (i + 1))) := by
  have hlt := (List.getElem?_eq_some_iff.1 hx).1
  have hfx := hf x (List.mem_of_getElem? hx)
  have hP : rowP cur l i = (rowB cur x && (decide (rowLast cur l i ≤ rowH cur x) && (decide (i = 0) || match l[i - 1]? with
    | some y => decide (y.mag < x.mag)
    | none => false))) := by
    unfold rowP; rw [hx]
  have hN : rowLast cur l (i + 1) = rowH cur x := by simp [rowLast, hx]
  rw [hN]
  obtain ⟨last, hlast⟩ : ∃ n, n = rowLast cur l i := ⟨_, rfl⟩
  rw [← hlast] at hP ⊢
  refine Does.bodyA tab Tryz.func179 rfl rfl ?_
  refine AC.step tab ?_
  refine gos ?_
  intro v1
  refine gos ?_
  refine AC.step tab ?_
  refine gos ?_
  refine CallW.of0 (row_does m x cur hfx.1 hfx.2) rfl ?_
  rintro ae ⟨n, rfl, hn⟩
  refine ⟨rfl, ?_⟩
  refine gos ?_
  refine AC.cutF tab (fun e h => e = [.any, .any, .any, .ptr 0 ver 0 0, .any, .any, .any, .any, .int .i64 n, .bool (rowP cur l i)] ++ List.replicate 29 .any ∧ h = [some (nO ver last)]) ?_ ?_
  · refine gos ?_
    refine DrawW.L ?_
    cases hB : rowB cur x with
    | false =>
      have hp : rowP cur l i = false := by rw [hP, hB]; rfl
      refine gos ?_
      rw [hp]
      exact ⟨_, 1, fgts, rfl, rfl⟩
    | true =>
    have hn2 := hn hB
    subst hn2
    rw [hB, Bool.true_and] at hP
    refine gos ?_
    by_cases h1 : last ≤ rowH cur x
    case neg =>
      have hp : rowP cur l i = false := by rw [hP]; simp [h1]
      refine CmpW.N ?_
      refine gos ?_
      rw [hp]
      exact ⟨_, 1, fgts, rfl, rfl⟩
    refine CmpW.T ?_
    refine gos ?_
    by_cases h2 : i = 0
    · have hp : rowP cur l i = true := by rw [hP]; simp [h1, h2]
      refine CmpW.T ?_
      refine gos ?_
      rw [hp]
      exact ⟨_, 1, fgts, rfl, rfl⟩
    refine CmpW.N ?_
    refine gos ?_
    obtain ⟨y, hy⟩ : ∃ y, l[i - 1]? = some y := ⟨_, List.getElem?_eq_getElem (by omega)⟩
    rw [hy] at hP
    rw [show (i : Int) - 1 = ((i - 1 : Nat) : Int) by omega]
    refine And.intro (encR_two l) (And.intro (by omega) ⟨encR y, map_get hy, ?_⟩)
    refine gos ?_
    refine CmpW.s ?_
    refine gos ?_
    have hp : rowP cur l i = decide (x.mag > y.mag) := by rw [hP]; simp [h1, h2]
    rw [hp]
    exact ⟨_, 1, fgts, rfl, rfl⟩
  rintro e h ⟨rfl, rfl⟩
  refine AC.step tab ?_
  refine gos ?_
  refine AC.go tab ?_
  refine gos ?_
  refine RetW.plain (by simp) ?_
  refine ⟨rfl, _, rfl, rfl, fun h => ?_⟩
  have hB : rowB cur x = true := by rw [hP] at h; cases hb : rowB cur x with
    | true => rfl
    | false => rw [hb] at h; cases h
  rw [hn hB]
  rfl
theorem rows_does (m : Int) (l : List TRow) (cur : Int) (hl : l.length < 100000) (hf : ∀ r ∈ l, r.fits) :
    Does Tryz.prog (GL m) 92 [rowL l, .int .i64 cur] [] fun ae _ => ae = .ret (.bool (rowsF l cur)) := by
  have ll : (l.map encR).length = l.length := by simp
  refine Does.bodyA tab Tryz.func92 rfl rfl ?_
  refine AC.step tab ?_
  refine gos ?_
  intro v1
  refine gos ?_
  intro v2
  refine gos ?_
  refine AC.wk (Wk.ptr (k := 2) (i := 0) rfl rfl rfl rfl rfl) ?_
  refine AC.wk (Wk.ptr (k := 3) (i := 1) rfl rfl rfl rfl rfl) ?_
  refine AC.step tab ?_
  refine gos ?_
  intro v3
  refine gos ?_
  refine AC.go tab ?_
  refine gos ?_
  rw [ll]
  by_cases h16 : l.length ≤ 16
  · refine CmpW.T ?_
    refine gos ?_
    have dE := evR_does (G := GL m) l (rowP cur l) (fun i => nO v3 (rowLast cur l i)) 179 [.int .i64 cur] [rowL l] v3 hl (fun i => rfl) fun i x hx _ => rows1_does m l cur hl hf v3 i x hx
    refine CallW.of1 2 dE rfl rfl rfl rfl ?_
    rintro ae O ⟨rfl, o, rfl, ho⟩
    refine ⟨o, rfl, ho, rfl, ?_⟩
    refine gos ?_
    refine RetW.plain (by simp) ?_
    simp [rowsF, h16]
  · refine CmpW.N ?_
    refine gos ?_
    refine RetW.plain (by simp) ?_
    simp [rowsF, h16]
end Go.Proofs.YtjjppmbojcgdgaaGreatDoor

namespace Go.Proofs.YtjjppmbojcgdgaaGreatDoor
open Go Go.Abs
attribute [local irreducible] DrawW CallW RetW AC Does CmpW
def catW : Nat → List UInt8
  | 0 => [122, 101, 114, 111]
  | 1 => [111, 110, 101]
  | 2 => [116, 119, 111]
  | 3 => [102, 101, 119]
  | 4 => [109, 97, 110, 121]
  | _ => [111, 116, 104, 101, 114]
theorem CatString_does (G : Globs) (c : Nat) (hc : c < 6) : Does Tryz.prog G 273 [.int .i64 c] [] fun ae _ => ae = .ret (.str (catW c)) := by
  have h : c = 0 ∨ c = 1 ∨ c = 2 ∨ c = 3 ∨ c = 4 ∨ c = 5 := by omega
  rcases h with rfl | rfl | rfl | rfl | rfl | rfl
  all_goals
    refine Does.body tab Tryz.func273 rfl rfl ?_
    (repeat (first | refine gof ?_ | refine fun (vv : Nat) => ?_))
    refine RetW.plain (by simp) ?_
    rfl
def catOf (w : List UInt8) : Option Nat := if catW 0 = w then some 0 else if catW 1 = w then some 1 else if catW 2 = w then some 2 else if catW 3 = w then some 3 else if catW 4 = w then some 4 else if catW 5 = w then some 5 else none
theorem catOf_lt {w : List UInt8} {c : Nat} (h : catOf w = some c) : c < 6 ∧ w = catW c := by
  unfold catOf at h
  repeat (split at h; · rename_i e; simp only [Option.some.injEq] at h; subst h; exact ⟨by omega, e.symm⟩)
  cases h
theorem CatOf_does (G : Globs) (w : List UInt8) : Does Tryz.prog G 239 [.str w] [] fun ae _ => ae = .ret (match catOf w with | some c => .tuple [.int .i64 c, .bool true] | none => .tuple [.int .i64 0, .bool false]) := by
  refine Does.body tab Tryz.func239 rfl rfl ?_
  refine gos ?_
  refine AC.rounds tab 7 ?_
  refine gos ?_
  refine CallW.pure (CatString_does G 0 (by omega)) rfl rfl ?_
  refine gos ?_
  by_cases h0 : catW 0 = w
  · refine CmpW.t (by simpa using h0) ?_
    refine gos ?_
    refine RetW.plain (by simp) ?_
    simp only [catOf, if_pos h0]; rfl
  refine CmpW.f (by simpa using h0) ?_
  refine gos ?_
  refine CallW.pure (CatString_does G 1 (by omega)) rfl rfl ?_
  refine gos ?_
  by_cases h1 : catW 1 = w
  · refine CmpW.t (by simpa using h1) ?_
    refine gos ?_
    refine RetW.plain (by simp) ?_
    simp only [catOf, if_neg h0, if_pos h1]; rfl
  refine CmpW.f (by simpa using h1) ?_
  refine gos ?_
  refine CallW.pure (CatString_does G 2 (by omega)) rfl rfl ?_
  refine gos ?_
  by_cases h2 : catW 2 = w
  · refine CmpW.t (by simpa using h2) ?_
    refine gos ?_
    refine RetW.plain (by simp) ?_
    simp only [catOf, if_neg h0, if_neg h1, if_pos h2]; rfl
  refine CmpW.f (by simpa using h2) ?_
  refine gos ?_
  refine CallW.pure (CatString_does G 3 (by omega)) rfl rfl ?_
  refine gos ?_
  by_cases h3 : catW 3 = w
  · refine CmpW.t (by simpa using h3) ?_
    refine gos ?_
    refine RetW.plain (by simp) ?_
    simp only [catOf, if_neg h0, if_neg h1, if_neg h2, if_pos h3]; rfl
  refine CmpW.f (by simpa using h3) ?_
  refine gos ?_
  refine CallW.pure (CatString_does G 4 (by omega)) rfl rfl ?_
  refine gos ?_
  by_cases h4 : catW 4 = w
  · refine CmpW.t (by simpa using h4) ?_
    refine gos ?_
    refine RetW.plain (by simp) ?_
    simp only [catOf, if_neg h0, if_neg h1, if_neg h2, if_neg h3, if_pos h4]; rfl
  refine CmpW.f (by simpa using h4) ?_
  refine gos ?_
  refine CallW.pure (CatString_does G 5 (by omega)) rfl rfl ?_
  refine gos ?_
  by_cases h5 : catW 5 = w
  · refine CmpW.t (by simpa using h5) ?_
    refine gos ?_
    refine RetW.plain (by simp) ?_
    simp only [catOf, if_neg h0, if_neg h1, if_neg h2, if_neg h3, if_neg h4, if_pos h5]; rfl
  refine CmpW.f (by simpa using h5) ?_
  refine gos ?_
  refine RetW.plain (by simp) ?_
  simp only [catOf, if_neg h0, if_neg h1, if_neg h2, if_neg h3, if_neg h4, if_neg h5]
theorem Cut_does (m : Int) (s t : List UInt8) (hs : s.length < 1000000) : Does Tryz.prog (GL m) 275 [.str s, .str t] [] fun ae _ => ae = .ret (.tuple [.str (Lib.cut s t).1, .str (Lib.cut s t).2.1, .bool (Lib.cut s t).2.2]) :=
  Does.of_calls (v := .tuple #[.string ⟨⟨(Lib.cut s t).1⟩⟩, .string ⟨⟨(Lib.cut s t).2.1⟩⟩, .bool (Lib.cut s t).2.2]) Tryz.func275 rfl rfl (fun C => by simp [RepF, RepFL]) fun C cargs hg hr => by
    rw [rep_str2 hr]
    refine (Tryz.strings_Cut ⟨⟨s⟩⟩ ⟨⟨t⟩⟩ m C.w (by simp [str_size]; omega) (glob_int hg (by simp [GL]))).mono ?_
    rintro e w' ⟨rfl, n, rfl⟩
    exact ⟨rfl, ⟨rfl, rfl, rfl, Nat.le_refl _, fun _ _ => rfl⟩⟩
theorem TrimRight_does (G : Globs) (s : List UInt8) (c : UInt8) (hc : c.toNat < 128) (hs : s.length < 1000000) : Does Tryz.prog G 207 [.str s, .str [c]] [] fun ae _ => ae = .ret (.str (Lib.trimRightB s c)) :=
  Does.of_calls (v := .string ⟨⟨Lib.trimRightB s c⟩⟩) Tryz.func207 rfl rfl (fun C => by simp [RepF]) fun C cargs hg hr => by
    rw [rep_str2 hr]
    refine (Tryz.strings_TrimRight_one ⟨⟨s⟩⟩ c hc C.w (by simp [str_size]; omega)).mono ?_
    rintro e w' ⟨rfl, rfl⟩
    exact ⟨rfl, below_same _⟩
theorem cut_le (s t : List UInt8) : (Lib.cut s t).1.length ≤ s.length := by
  unfold Lib.cut
  split
  · simp; omega
  · simp
def smpF (s : List UInt8) (a : Nat) : List UInt8 × Nat :=
  if pk s a = 64 then (Lib.trimRightB (Lib.cut (s.drop (bl s a)) [59]).1 32, bl s a + (Lib.cut (s.drop (bl s a)) [59]).1.length) else ([], bl s a)
theorem smpF_le {s : List UInt8} {a : Nat} (ha : a ≤ s.length) : a ≤ (smpF s a).2 ∧ (smpF s a).2 ≤ s.length := by
  have hb := bl_le ha
  have := cut_le (s.drop (bl s a)) [59]
  rw [List.length_drop] at this
  unfold smpF
  split <;> simp <;> omega
theorem sample_does (m : Int) (s : List UInt8) (a n : Nat) (F : Fnd) (ha : a ≤ s.length) (hs : s.length < 100000) (ver : Nat) :
    Does Tryz.prog (GL m) 243 [.ptr 0 ver 0 0] [some (rro ver s a n F)] fun ae O => ae = .ret (.str (smpF s a).1) ∧ O = [some (rro ver s (smpF s a).2 n F)] := by
  refine Does.body tab Tryz.func243 rfl rfl ?_
  refine gos ?_
  refine CallW.meth 0 (peek_does s a n F ha hs ver) rfl rfl rfl rfl rfl rfl ?_
  have hb := bl_le ha
  refine gos ?_
  by_cases hp : pk s a = 64
  · refine CmpW.f (by simp; omega) ?_
    refine gos ?_
    refine DrawW.L ?_
    refine gos ?_
    refine And.intro (And.intro (by omega) (by omega)) ?_
    refine CallW.pure (Cut_does m (s.drop (bl s a)) [59] (by simp; omega)) rfl rfl ?_
    have := cut_le (s.drop (bl s a)) [59]
    rw [List.length_drop] at this
    refine gos ?_
    refine CallW.pure (TrimRight_does _ _ 32 (by decide) (by omega)) rfl rfl ?_
    refine gos ?_
    refine RetW.plain (by simp) ?_
    simp only [smpF, if_pos hp]
    (first | exact ⟨rfl, rfl⟩ | exact ⟨trivial, rfl⟩ | exact ⟨rfl, trivial⟩ | rfl | trivial | done)
  · refine CmpW.t (by simp; omega) ?_
    refine gos ?_
    refine RetW.plain (by simp) ?_
    simp only [smpF, if_neg hp]
    (first | exact ⟨rfl, rfl⟩ | exact ⟨trivial, rfl⟩ | exact ⟨rfl, trivial⟩ | rfl | trivial | done)
end Go.Proofs.YtjjppmbojcgdgaaGreatDoor
