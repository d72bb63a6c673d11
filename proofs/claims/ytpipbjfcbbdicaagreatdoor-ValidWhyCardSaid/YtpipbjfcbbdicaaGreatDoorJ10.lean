/- The reader of rules: its small steps. -/
import Derived.Test.YtpipbjfcbbdicaaGreatDoorJ09
import Derived.Test.YtpipbjfcbbdicaaGreatDoorJ07
import Derived.Test.YtpipbjfcbbdicaaGreatDoorJ06
set_option linter.unusedVariables false
set_option linter.unusedSimpArgs false
set_option maxRecDepth 100000
set_option maxHeartbeats 4000000

namespace Go.Proofs.YtpipbjfcbbdicaaGreatDoor
open Go Go.Abs
attribute [local irreducible] DrawW CallW RetW AC Does CmpW
variable {G : Globs}

def okS (cur per : Int) (x : List Piece × List Piece) : Bool := decide ((cnt2 5 x : Int) = cur ∧ (cnt2 3 x : Int) = per ∧ cnt2 4 x = 0)
def sdsF (v : PatV) (cur per : Int) : Bool := okS cur per (sidesF v false) && okS cur per (sidesF v true)
theorem sides_small {v : PatV} (hv : v.small) (neg : Bool) : (sidesF v neg).1.length < 200000 ∧ (sidesF v neg).2.length < 200000 := by
  obtain ⟨h1, h2, h3, h4⟩ := hv
  unfold sidesF
  split
  · split <;> simp only [List.length_cons] <;> omega
  · simp only; omega
theorem ne0 {n : Nat} : (((n : Int) != 0) = false) ↔ n = 0 := by simp

theorem vsides_does (v : PatV) (hv : v.small) (cur per : Int) : Does Tryz.prog G 61 [encV v, .int .i64 cur, .int .i64 per] [] fun ae _ => ae = .ret (.bool (sdsF v cur per)) := by
  obtain ⟨X, hX⟩ : ∃ X, X = sidesF v false := ⟨_, rfl⟩
  obtain ⟨Y, hY⟩ : ∃ Y, Y = sidesF v true := ⟨_, rfl⟩
  have sX := sides_small hv false
  have sY := sides_small hv true
  have dX := Sides_does (G := G) v hv false
  have dY := Sides_does (G := G) v hv true
  rw [← hX] at sX dX
  rw [← hY] at sY dY
  have hS : sdsF v cur per = (okS cur per X && okS cur per Y) := by unfold sdsF; rw [← hX, ← hY]
  rw [hS]
  clear hS hX hY hv
  refine Does.bodyA tab Tryz.func61 rfl rfl ?_
  obtain ⟨p, q, p', q', two, N⟩ := v
  cases two
  all_goals
    refine AC.step tab ?_
    refine gos ?_
    intro v1
    refine gos ?_
    refine AC.wk (Wk.ptr (k := 3) (i := 0) rfl rfl rfl rfl rfl) ?_
    refine AC.cutA (fun e h => okS cur per X = true ∧ okS cur per Y = true ∧ e = List.replicate 35 .any ∧ h = []) ?_ ?_
    · refine AC.cutF tab (fun e h => ∃ vr, e = [.any, .int .i64 cur, .int .i64 per, .any, .any, .any, .any, .any, .any, .any, .any, .any, .any, .sl 1 vr, .int .i64 2, .int .i64 0] ++ List.replicate 19 .any ∧ h = [none, some ⟨vr, 105, 2, [[encL X.1, encL X.2], [encL Y.1, encL Y.2]]⟩]) ?_ ?_
      · refine gos ?_
        refine DrawW.P (.take 0 (.take 6 (.fork (.cons 1 (.take 2 (.take 3 (.take 4 (.take 5 .done)))) (.cons 2 (.take 1 (.take 3 (.take 4 (.take 5 .done)))) .nil))))) ?_
        refine gos ?_
        refine And.intro ?_ (And.intro ?_ trivial)
        · refine gos ?_
          refine CallW.pure dX rfl rfl ?_
          refine gos ?_
          refine CallW.pure dY rfl rfl ?_
          (repeat (first | refine gof ?_ | refine fun (vv : Nat) => ?_))
          exact ⟨_, 2, fgts, vv, rfl, rfl⟩
        · refine gos ?_
          refine CallW.pure dX rfl rfl ?_
          refine gos ?_
          refine CallW.pure dY rfl rfl ?_
          (repeat (first | refine gof ?_ | refine fun (vv : Nat) => ?_))
          exact ⟨_, 2, fgts, vv, rfl, rfl⟩
      rintro e h ⟨vr, rfl, rfl⟩
      refine AC.go tab ?_
      refine gos ?_
      refine AC.rounds tab 3 ?_
      refine gos ?_
      refine And.intro (And.intro (of_decide_eq_true rfl) (of_decide_eq_true rfl)) ?_
      (repeat (first | refine gof ?_ | refine fun (vv : Nat) => ?_))
      refine CallW.pure (count_does X sX.1 sX.2 5) rfl rfl ?_
      refine gos ?_
      by_cases c5 : (cnt2 5 X : Int) = cur
      case neg =>
        refine CmpW.t (by simpa using c5) ?_
        refine gos ?_
        refine RetW.plain (by simp) ?_
        rw [show okS cur per X = false by simp_all [okS]]
        rfl
      refine CmpW.f (by simpa using c5) ?_
      refine gos ?_
      refine CallW.pure (count_does X sX.1 sX.2 3) rfl rfl ?_
      refine gos ?_
      by_cases c3 : (cnt2 3 X : Int) = per
      case neg =>
        refine CmpW.t (by simpa using c3) ?_
        refine gos ?_
        refine RetW.plain (by simp) ?_
        rw [show okS cur per X = false by simp_all [okS]]
        rfl
      refine CmpW.f (by simpa using c3) ?_
      refine gos ?_
      refine CallW.pure (count_does X sX.1 sX.2 4) rfl rfl ?_
      refine gos ?_
      by_cases c4 : cnt2 4 X = 0
      case neg =>
        refine CmpW.t (by simpa using c4) ?_
        refine gos ?_
        refine RetW.plain (by simp) ?_
        rw [show okS cur per X = false by simp_all [okS]]
        rfl
      refine CmpW.f (by simpa using c4) ?_
      have kX : okS cur per X = true := by simp [okS, c5, c3, c4]
      clear c5 c3 c4
      refine gos ?_
      refine And.intro (And.intro (of_decide_eq_true rfl) (of_decide_eq_true rfl)) ?_
      (repeat (first | refine gof ?_ | refine fun (vv : Nat) => ?_))
      refine CallW.pure (count_does Y sY.1 sY.2 5) rfl rfl ?_
      refine gos ?_
      by_cases c5 : (cnt2 5 Y : Int) = cur
      case neg =>
        refine CmpW.t (by simpa using c5) ?_
        refine gos ?_
        refine RetW.plain (by simp) ?_
        rw [kX, show okS cur per Y = false by simp_all [okS]]
        rfl
      refine CmpW.f (by simpa using c5) ?_
      refine gos ?_
      refine CallW.pure (count_does Y sY.1 sY.2 3) rfl rfl ?_
      refine gos ?_
      by_cases c3 : (cnt2 3 Y : Int) = per
      case neg =>
        refine CmpW.t (by simpa using c3) ?_
        refine gos ?_
        refine RetW.plain (by simp) ?_
        rw [kX, show okS cur per Y = false by simp_all [okS]]
        rfl
      refine CmpW.f (by simpa using c3) ?_
      refine gos ?_
      refine CallW.pure (count_does Y sY.1 sY.2 4) rfl rfl ?_
      refine gos ?_
      by_cases c4 : cnt2 4 Y = 0
      case neg =>
        refine CmpW.t (by simpa using c4) ?_
        refine gos ?_
        refine RetW.plain (by simp) ?_
        rw [kX, show okS cur per Y = false by simp_all [okS]]
        rfl
      refine CmpW.f (by simpa using c4) ?_
      have kY : okS cur per Y = true := by simp [okS, c5, c3, c4]
      clear c5 c3 c4
      refine gos ?_
      exact ⟨_, 0, fgts, kX, kY, rfl, rfl⟩
    rintro e h ⟨kX, kY, rfl, rfl⟩
    rw [kX, kY]
    refine AC.go tab ?_
    refine gos ?_
    refine RetW.plain (by simp) ?_
    rfl
/-- Is a text a pattern with so many signs? -/
def shapF (s : List UInt8) (cur per : Int) : Bool := match parE s with
  | .ok v => sdsF v cur per
  | .error _ => false
theorem shaped_does (m : Int) (s : List UInt8) (hs : s.length < 100000) (cur per : Int) : Does Tryz.prog (GL m) 25 [.str s, .int .i64 cur, .int .i64 per] [] fun ae _ => ae = .ret (.bool (shapF s cur per)) := by
  have dP := Parse_does (m := m) s hs
  rw [parF_eq] at dP
  refine Does.bodyA tab Tryz.func25 rfl rfl ?_
  refine AC.step tab ?_
  refine gos ?_
  refine AC.step tab ?_
  refine gos ?_
  cases hE : parE s with
  | error x =>
    obtain ⟨c, a⟩ := x
    have hc := parE_bad hE
    have hF : shapF s cur per = false := by simp [shapF, hE]
    rw [hE] at dP
    rw [hF]
    refine CallW.pure dP rfl rfl ?_
    (repeat (first | refine gof ?_ | refine fun (vv : Nat) => ?_))
    refine AC.step tab ?_
    refine gos ?_
    refine CmpW.f (by simp; omega) ?_
    refine gos ?_
    refine AC.go tab ?_
    refine gos ?_
    refine RetW.plain (by simp) ?_
    rfl
  | ok v =>
    have hv := parE_small hE
    have hF : shapF s cur per = sdsF v cur per := by simp [shapF, hE]
    have dS := vsides_does (G := GL m) v hv cur per
    rw [hE] at dP
    rw [hF]
    clear hF hv hE
    generalize sdsF v cur per = R at dS
    obtain ⟨p, q, p', q', two, N⟩ := v
    cases two
    all_goals
      refine CallW.pure dP rfl rfl ?_
      (repeat (first | refine gof ?_ | refine fun (vv : Nat) => ?_))
      refine AC.step tab ?_
      refine gos ?_
      refine CallW.pure dS rfl rfl ?_
      refine gos ?_
      refine AC.go tab ?_
      refine gos ?_
      refine RetW.plain (by simp) ?_
      rfl
end Go.Proofs.YtpipbjfcbbdicaaGreatDoor

namespace Go.Proofs.YtpipbjfcbbdicaaGreatDoor
open Go Go.Abs
attribute [local irreducible] DrawW CallW RetW AC Does CmpW
variable {G : Globs}

/-- A compact pattern in memory. -/
structure FS where
  z : Nat
  nb : Bool
  x : Aff
  two : Bool
  N : Num
def FS.ok (q : FS) : Prop := q.x.ok
def FS.cells (q : FS) : List AV := .int .i64 (q.z : Int) :: .bool q.nb :: patCells q.x q.two q.N
def fsO (ver : Nat) (q : FS) : AObj := ⟨ver, 133, 13, [q.cells]⟩
def fs0 : FS := ⟨0, false, ⟨.nils, .nils, .nils, .nils⟩, false, Num.zero⟩
def fsV (v : PatV) : FS := ⟨v.N.mi, noopF v, affV v, v.two, v.N⟩
theorem fs0_ok : fs0.ok := ⟨rfl, rfl, rfl, rfl⟩
theorem fsV_ok (v : PatV) : (fsV v).ok := by
  obtain ⟨p, q, p', q', two, N⟩ := v
  cases two <;> exact ⟨rfl, rfl, rfl, rfl⟩
theorem fsO_closed {ver : Nat} {q : FS} (h : q.ok) : closedLL (fsO ver q).es = true := by
  obtain ⟨h1, h2, h3, h4⟩ := h
  simp [fsO, closedLL, closedL, FS.cells, patCells, closed, h1, h2, h3, h4]
def clash (q : FS) (v : PatV) : Bool := decide (0 < q.z) && (decide (v.N.mi ≠ q.z) || decide (noopF v ≠ q.nb))
def rowS (q : FS) (s : List UInt8) : FS := match cpaE s with
  | .error _ => q
  | .ok v => if clash q v then q else fsV v
def rowR (q : FS) (cur : Int) (s : List UInt8) : Bool := match cpaE s with
  | .error _ => false
  | .ok v => !clash q v && (decide (s.length ≤ 60) && (noopF v || sdsF v cur 0))
theorem cpaE_bad {s : List UInt8} {e : Int × Int} (h : cpaE s = .error e) : e.1 = 1 ∨ e.1 = 2 ∨ e.1 = 3 := by
  unfold cpaE at h
  split at h
  · rename_i x hx
    simp at h; subst h
    rcases parE_bad hx with h | h
    · exact .inl h
    · exact .inr (.inl h)
  · split at h
    · simp at h; subst h; exact .inr (.inr rfl)
    · cases h

theorem row1_does (m : Int) (q : FS) (hq : q.ok) (ver : Nat) (cur : Int) (s : List UInt8) (hs : s.length < 100000) :
    Does Tryz.prog (GL m) 94 ([] ++ [.str s] ++ [.ptr 0 ver 0 0, .fptr [.int .i64 cur]]) [some (fsO ver q)] fun ae O => ae = .ret (.bool (rowR q cur s)) ∧ O = [some (fsO ver (rowS q s))] := by
  have dP := CParse_does (m := m) s hs
  refine Does.bodyA tab Tryz.func94 rfl rfl ?_
  refine AC.step tab ?_
  refine gos ?_
  refine AC.step tab ?_
  refine gos ?_
  cases hE : cpaE s with
  | error e =>
    have hb := cpaE_bad hE
    rw [hE] at dP
    refine CallW.pure dP rfl rfl ?_
    (repeat (first | refine gof ?_ | refine fun (vv : Nat) => ?_))
    refine AC.step tab ?_
    refine gos ?_
    refine CmpW.t (by simp; omega) ?_
    refine gos ?_
    refine RetW.plain (by simp) ?_
    simp [rowR, rowS, hE]
  | ok v =>
    have hv := cpaE_small hE
    have dS := vsides_does (G := GL m) v hv cur 0
    have hR : rowR q cur s = (!clash q v && (decide (s.length ≤ 60) && (noopF v || sdsF v cur 0))) := by simp [rowR, hE]
    have hS : rowS q s = if clash q v then q else fsV v := by simp [rowS, hE]
    rw [hE] at dP
    rw [hR, hS]
    have hcl : clash q v = (decide (0 < q.z) && (decide (v.N.mi ≠ q.z) || decide (noopF v ≠ q.nb))) := rfl
    have hfV : fsV v = ⟨v.N.mi, noopF v, affV v, v.two, v.N⟩ := rfl
    unfold cpaV encC at dP
    simp only at dP
    rw [hfV]
    generalize sdsF v cur 0 = SD at dS ⊢
    generalize noopF v = nv at dP hcl ⊢
    generalize clash q v = cl at hcl ⊢
    clear hR hS hE hfV hv
    obtain ⟨p, r, p', r', two, N⟩ := v
    obtain ⟨z, nb, x0, tw, N0⟩ := q
    simp only at hcl
    obtain ⟨FV, hFV⟩ : ∃ FV : FS, FV = ⟨N.mi, nv, affV ⟨p, r, p', r', two, N⟩, two, N⟩ := ⟨_, rfl⟩
    have hEq : (⟨N.mi, nv, affV ⟨p, r, p', r', two, N⟩, two, N⟩ : FS) = FV := hFV.symm
    rw [hEq]
    clear hEq
    cases two
    all_goals
      refine CallW.pure dP rfl rfl ?_
      (repeat (first | refine gof ?_ | refine fun (vv : Nat) => ?_))
      refine AC.cutF tab (fun e h => cl = false ∧ e = [.str s, .ptr 0 ver 0 0, .fptr [.int .i64 cur], .any, .any, .ptr 1 vv 0 0] ++ List.replicate 43 .any ∧
        h = [some (fsO ver ⟨z, nb, x0, tw, N0⟩), some (fsO vv FV)]) ?_ ?_
      · subst hFV
        refine gos ?_
        by_cases h1 : 0 < z
        case neg =>
          refine CmpW.f (by simp; omega) ?_
          refine gos ?_
          have : cl = false := by rw [hcl]; simp [h1]
          exact ⟨_, 2, fgts, this, rfl, rfl⟩
        refine CmpW.t (by simp; omega) ?_
        refine gos ?_
        by_cases h2 : N.mi = z
        case neg =>
          refine CmpW.t (by simp; omega) ?_
          refine gos ?_
          have : cl = true := by rw [hcl]; simp [h1, h2]
          refine RetW.plain (by simp) ?_
          rw [this]
          exact ⟨rfl, rfl⟩
        refine CmpW.f (by simp; omega) ?_
        refine gos ?_
        cases nv <;> cases nb
        · refine gos ?_
          have : cl = false := by rw [hcl]; simp [h1, h2]
          exact ⟨_, 2, fgts, this, rfl, rfl⟩
        · refine gos ?_
          have : cl = true := by rw [hcl]; simp [h1]
          refine RetW.plain (by simp) ?_
          rw [this]
          exact ⟨rfl, rfl⟩
        · refine gos ?_
          have : cl = true := by rw [hcl]; simp [h1]
          refine RetW.plain (by simp) ?_
          rw [this]
          exact ⟨rfl, rfl⟩
        · refine gos ?_
          have : cl = false := by rw [hcl]; simp [h1, h2]
          exact ⟨_, 2, fgts, this, rfl, rfl⟩
      rintro e h ⟨rfl, rfl, rfl⟩
      subst hFV
      refine AC.step tab ?_
      refine gos ?_
      refine AC.go tab ?_
      refine gos ?_
      by_cases h60 : s.length ≤ 60
      case neg =>
        refine CmpW.N ?_
        refine gos ?_
        refine RetW.plain (by simp) ?_
        exact ⟨by simp [h60], rfl⟩
      refine CmpW.T ?_
      cases nv with
      | true =>
        refine gos ?_
        refine RetW.plain (by simp) ?_
        exact ⟨by simp [h60], rfl⟩
      | false =>
        refine gos ?_
        refine CallW.pure dS rfl rfl ?_
        refine gos ?_
        refine RetW.plain (by simp) ?_
        exact ⟨by simp [h60], rfl⟩
end Go.Proofs.YtpipbjfcbbdicaaGreatDoor

namespace Go.Proofs.YtpipbjfcbbdicaaGreatDoor
open Go Go.Abs
attribute [local irreducible] DrawW CallW RetW AC Does CmpW
variable {G : Globs}

def tlO (vl : Nat) (l : List TTxt) : AObj := ⟨vl, 27, 1, [[txtL l]]⟩
def fnO (vo : Nat) (fid : FuncId) (va : Nat) (cs : List AV) : AObj := ⟨vo, 60, 1, [[.func (.func fid) [] [.ptr 0 va 0 0, .fptr cs]]]⟩
theorem cats1S_does (l : List TTxt) (hl : l.length < 100000) (i : Nat) (x : TTxt) (hx : l[i]? = some x) (vl vo va : Nat) (fid : FuncId) (cs : List AV) (A A' : AObj) (hA : closedLL A.es = true) (hA' : closedLL A'.es = true) (r : Bool)
    (hok : catG l i = true → Does Tryz.prog G fid ([] ++ [.str x.text] ++ [.ptr 0 va 0 0, .fptr cs]) [some A] fun ae O => ae = .ret (.bool r) ∧ O = [some A']) (hno : catG l i = false → A' = A) :
    Does Tryz.prog G 70 ([] ++ [.int .i64 (i : Nat), .agg (encT x)] ++ [.ptr 1 vl 0 0, .ptr 2 vo 0 0]) [some A, some (tlO vl l), some (fnO vo fid va cs)] fun ae O => ae = .ret (.bool (catG l i && r)) ∧ O = [some A', some (tlO vl l), some (fnO vo fid va cs)] := by
  have hlt := (List.getElem?_eq_some_iff.1 hx).1
  have hG : catG l i = (decide (0 ≤ x.cat) && (decide (i = 0) || match l[i - 1]? with
    | some y => decide (y.cat < x.cat)
    | none => false)) := by
    unfold catG; rw [hx]; rfl
  refine Does.body tab Tryz.func70 rfl rfl ?_
  refine gos ?_
  intro v1
  refine gos ?_
  refine DrawW.L ?_
  refine gos ?_
  by_cases h0 : 0 ≤ x.cat
  case neg =>
    have hf : catG l i = false := by rw [hG]; simp [h0]
    refine CmpW.N ?_
    refine gos ?_
    refine RetW.plain (by simp) ?_
    rw [hf, hno hf]
    exact ⟨rfl, rfl⟩
  refine CmpW.T ?_
  refine gos ?_
  by_cases hi : i = 0
  · have ht : catG l i = true := by rw [hG]; simp [h0, hi]
    refine CmpW.T ?_
    refine gos ?_
    refine CallW.meth 0 (hok ht) rfl rfl rfl hA hA' rfl ?_
    refine gos ?_
    refine RetW.plain (by simp) ?_
    rw [ht]
    exact ⟨rfl, rfl⟩
  refine CmpW.N ?_
  refine gos ?_
  obtain ⟨y, hy⟩ : ∃ y, l[i - 1]? = some y := ⟨_, List.getElem?_eq_getElem (by omega)⟩
  rw [show (i : Int) - 1 = ((i - 1 : Nat) : Int) by omega]
  refine And.intro (encT_two l) (And.intro (by omega) ⟨encT y, map_get hy, ?_⟩)
  refine gos ?_
  by_cases hc : y.cat < x.cat
  · have ht : catG l i = true := by rw [hG, hy]; simp [h0, hc]
    refine CmpW.T ?_
    refine gos ?_
    refine CallW.meth 0 (hok ht) rfl rfl rfl hA hA' rfl ?_
    refine gos ?_
    refine RetW.plain (by simp) ?_
    rw [ht]
    exact ⟨rfl, rfl⟩
  · have hf : catG l i = false := by rw [hG, hy]; simp [h0, hi, hc]
    refine CmpW.N ?_
    refine gos ?_
    refine RetW.plain (by simp) ?_
    rw [hf, hno hf]
    exact ⟨rfl, rfl⟩
theorem closedLL_inside {n : Nat} {es : List (List AV)} (h : closedLL es = true) : insideLL n es = true := insideLL_closed _ _ h
theorem catsS_does (l : List TTxt) (hl : l.length < 100000) (va : Nat) (fid : FuncId) (cs : List AV) (A : Nat → AObj) (hA : ∀ i, closedLL (A i).es = true) (ok : Nat → Bool)
    (hok : ∀ (i : Nat) (x : TTxt), l[i]? = some x → catG l i = true → Does Tryz.prog G fid ([] ++ [.str x.text] ++ [.ptr 0 va 0 0, .fptr cs]) [some (A i)] fun ae O => ae = .ret (.bool (ok i)) ∧ O = [some (A (i + 1))])
    (hno : ∀ i, catG l i = false → A (i + 1) = A i) :
    Does Tryz.prog G 37 [txtL l, .func (.func fid) [] [.ptr 0 va 0 0, .fptr cs]] [some (A 0)] fun ae O => ae = .ret (.bool (catsF l ok)) ∧ ∃ k, k ≤ l.length ∧ O = [some (A k)] ∧ (catsF l ok = true → k = l.length) := by
  have ll : (l.map encT).length = l.length := by simp
  refine Does.bodyA tab Tryz.func37 rfl rfl ?_
  refine AC.step tab ?_
  refine gos ?_
  intro v1
  refine gos ?_
  intro v2
  refine gos ?_
  refine AC.step tab ?_
  refine gos ?_
  rw [ll]
  by_cases h0 : l.length = 0
  · have h0' : l = [] := List.eq_nil_of_length_eq_zero h0
    refine CmpW.T ?_
    refine gos ?_
    refine RetW.plain (by simp) ?_
    subst h0'
    exact ⟨rfl, 0, by omega, rfl, fun _ => rfl⟩
  refine CmpW.N ?_
  refine gos ?_
  obtain ⟨y, hy⟩ : ∃ y, l[l.length - 1]? = some y := ⟨_, List.getElem?_eq_getElem (by omega)⟩
  rw [ll, show (l.length : Int) - 1 = ((l.length - 1 : Nat) : Int) by omega]
  refine gos ?_
  refine And.intro (encT_two l) (And.intro (by omega) ⟨encT y, map_get hy, ?_⟩)
  refine gos ?_
  have hL := last_get hy
  by_cases h5 : y.cat = 5
  case neg =>
    have hC : catsF l ok = false := by rw [catsF, hL]; simp [h5]
    refine CmpW.t (by simpa using h5) ?_
    refine gos ?_
    refine RetW.plain (by simp) ?_
    rw [hC]
    exact ⟨rfl, 0, by omega, rfl, fun h => by cases h⟩
  have hC : catsF l ok = allB (fun i => catG l i && ok i) l.length := by rw [catsF, hL]; simp [h5]
  refine CmpW.f (by simpa using h5) ?_
  refine gos ?_
  refine AC.go tab ?_
  refine gos ?_
  have dE := evS_does (G := G) l (fun i => catG l i && ok i) A 70 v1 v2 (tlO v1 l) (fnO v2 fid va cs) rfl rfl hl (fun i => closedLL_inside (hA i)) fun i x hx _ => cats1S_does l hl i x hx v1 v2 va fid cs (A i) (A (i + 1)) (hA i) (hA (i + 1)) (ok i) (fun h => hok i x hx h) (fun h => hno i h)
  refine CallW.fst 3 (by simp) dE rfl (by simp [insideO, closedLL_inside (hA 0), insideLL, insideL, inside, tlO, fnO, txtL]) ?_
  rintro ae O ⟨rfl, k, hk, rfl, hkl⟩ _
  refine ⟨rfl, by simp [insideO, closedLL_inside (hA k), insideLL, insideL, inside, tlO, fnO, txtL], ?_⟩
  refine gos ?_
  refine RetW.plain (by simp) ?_
  rw [hC]
  exact ⟨rfl, k, hk, rfl, hkl⟩

def shiftF (q : FS) (mag : Int) : Int := if q.nb then 0 else IntKind.i64.wrap (IntKind.i64.wrap (mag - q.z) + 1)
def FS.fit (q : FS) : Prop := q.x = ⟨.nils, .nils, .nils, .nils⟩ ∨ ∃ v : PatV, q.x = affV v
theorem fs0_fit : fs0.fit := .inl rfl
theorem rowS_fit {q : FS} (h : q.fit) (s : List UInt8) : (rowS q s).fit := by
  unfold rowS
  split
  · exact h
  · split
    · exact h
    · exact .inr ⟨_, rfl⟩
theorem fit_ok {q : FS} (h : q.fit) : q.ok := by
  unfold FS.ok
  rcases h with h | ⟨v, h⟩
  · rw [h]; exact ⟨rfl, rfl, rfl, rfl⟩
  · rw [h]; exact fsV_ok v
theorem Shift_does (q : FS) (hq : q.fit) (mag : Int) : Does Tryz.prog G 95 [.agg q.cells, .int .i64 mag] [] fun ae _ => ae = .ret (.int .i64 (shiftF q mag)) := by
  obtain ⟨z, nb, x, two, N⟩ := q
  have h3 : x = ⟨.nils, .nils, .nils, .nils⟩ ∨ (∃ a b, x = ⟨encL a, encL b, .nils, .nils⟩) ∨ (∃ a b c d, x = ⟨encL a, encL b, encL c, encL d⟩) := by
    rcases hq with h | ⟨⟨p, q, p', q', two, N⟩, h⟩
    · exact .inl h
    · simp only at h
      cases two
      · exact .inr (.inl ⟨p, q, h⟩)
      · exact .inr (.inr ⟨p, q, p', q', h⟩)
  clear hq
  refine Does.body tab Tryz.func95 rfl rfl ?_
  rcases h3 with rfl | ⟨a, b, rfl⟩ | ⟨a, b, c, d, rfl⟩ <;> cases nb
  all_goals
    refine gos ?_
    intro v1
    refine gos ?_
    refine RetW.plain (by simp) ?_
    rfl
/-- What a row's first patterns leave. -/
def rowA (cur : Int) (l : List TTxt) : Nat → FS
  | 0 => fs0
  | i + 1 => if catG l i then (match l[i]? with
      | some x => rowS (rowA cur l i) x.text
      | none => rowA cur l i) else rowA cur l i
theorem rowA_fit (cur : Int) (l : List TTxt) : ∀ i, (rowA cur l i).fit
  | 0 => fs0_fit
  | i + 1 => by
    unfold rowA
    split
    · split
      · exact rowS_fit (rowA_fit cur l i) _
      · exact rowA_fit cur l i
    · exact rowA_fit cur l i
def rowK (cur : Int) (l : List TTxt) (i : Nat) : Bool := match l[i]? with
  | some x => rowR (rowA cur l i) cur x.text
  | none => false
/-- Is a row as it must be? -/
def rowB (cur : Int) (r : TRow) : Bool := inF r.mag 0 100 && catsF r.texts (rowK cur r.texts)
def rowH (cur : Int) (r : TRow) : Int := shiftF (rowA cur r.texts r.texts.length) r.mag
theorem row_does (m : Int) (r : TRow) (cur : Int) (hl : r.texts.length < 100000) (ht : ∀ x ∈ r.texts, x.text.length < 100000) :
    Does Tryz.prog (GL m) 66 [.agg (encR r), .int .i64 cur] [] fun ae _ => ∃ n, ae = .ret (.tuple [.int .i64 n, .bool (rowB cur r)]) ∧ (rowB cur r = true → n = rowH cur r) := by
  refine Does.bodyA tab Tryz.func66 rfl rfl ?_
  refine AC.step tab ?_
  refine gos ?_
  intro v1
  refine gos ?_
  intro v2
  refine gos ?_
  refine AC.wk (Wk.ptr (k := 2) (i := 0) rfl rfl rfl rfl rfl) ?_
  refine AC.wk (Wk.ptr (k := 3) (i := 1) rfl rfl rfl rfl rfl) ?_
  refine AC.step tab ?_
  refine gos ?_
  intro v3
  refine gos ?_
  refine AC.cutF tab (fun e h => ∃ q : FS, q.fit ∧ (rowB cur r = true → q = rowA cur r.texts r.texts.length) ∧ e = [.any, .any, .fptr (encR r), .fptr [.int .i64 cur], .any, .any, .ptr 2 v3 0 0, .bool (rowB cur r)] ++ List.replicate 14 .any ∧ h = [none, none, some (fsO v3 q)]) ?_ ?_
  · refine gos ?_
    refine CallW.pure (vin_does r.mag 0 100) rfl rfl ?_
    cases hin : inF r.mag 0 100 with
    | false =>
      have hB : rowB cur r = false := by simp [rowB, hin]
      refine gos ?_
      rw [hB]
      exact ⟨_, 3, fgts, fs0, fs0_fit, fun h => by (cases h), rfl, rfl⟩
    | true =>
      have hB : rowB cur r = catsF r.texts (rowK cur r.texts) := by simp [rowB, hin]
      refine gos ?_
      have dC := catsS_does (G := GL m) r.texts hl v3 94 [.int .i64 cur] (fun i => fsO v3 (rowA cur r.texts i)) (fun i => fsO_closed (fit_ok (rowA_fit cur r.texts i))) (rowK cur r.texts)
        (fun i x hx hg => by
          have h1 := row1_does m (rowA cur r.texts i) (fit_ok (rowA_fit cur r.texts i)) v3 cur x.text (ht x (List.mem_of_getElem? hx))
          have e1 : rowK cur r.texts i = rowR (rowA cur r.texts i) cur x.text := by simp [rowK, hx]
          have e2 : rowA cur r.texts (i + 1) = rowS (rowA cur r.texts i) x.text := by simp [rowA, hg, hx]
          simp only [e1, e2]
          exact h1)
        (fun i hg => by simp [rowA, hg])
      refine CallW.of1 2 dC rfl (fsO_closed fs0_ok) rfl rfl ?_
      rintro ae O ⟨rfl, k, hk, rfl, hkl⟩
      refine ⟨_, rfl, fsO_closed (fit_ok (rowA_fit cur r.texts k)), rfl, ?_⟩
      refine gos ?_
      rw [hB]
      exact ⟨_, 3, fgts, rowA cur r.texts k, rowA_fit cur r.texts k, fun h => by rw [hkl h], rfl, rfl⟩
  rintro e h ⟨q, hq, hqe, rfl, rfl⟩
  refine AC.go tab ?_
  refine gos ?_
  refine CallW.pure (Shift_does q hq r.mag) ?_ rfl ?_
  · obtain ⟨h1, h2, h3, h4⟩ := fit_ok hq
    simp [closedL, closed, h1, h2, h3, h4]
  refine gos ?_
  refine RetW.plain (by simp) ?_
  exact ⟨_, rfl, fun h => by rw [hqe h]; rfl⟩
end Go.Proofs.YtpipbjfcbbdicaaGreatDoor

namespace Go.Proofs.YtpipbjfcbbdicaaGreatDoor
open Go Go.Abs
attribute [local irreducible] DrawW CallW RetW AC Does CmpW

/-- How far the last row's numbers are shifted. -/
def rowLast (cur : Int) (l : List TRow) : Nat → Int
  | 0 => 0
  | i + 1 => match l[i]? with
    | some x => rowH cur x
    | none => 0
def rowP (cur : Int) (l : List TRow) (i : Nat) : Bool := match l[i]? with
  | some x => rowB cur x && (decide (rowLast cur l i ≤ rowH cur x) && (decide (i = 0) || match l[i - 1]? with
    | some y => decide (y.mag < x.mag)
    | none => false))
  | none => false
/-- Are rows as they must be? -/
def rowsF (l : List TRow) (cur : Int) : Bool := decide (l.length ≤ 16) && allB (rowP cur l) l.length
def TRow.fits (r : TRow) : Prop := r.texts.length < 100000 ∧ ∀ x ∈ r.texts, x.text.length < 100000
def nO (ver : Nat) (n : Int) : AObj := ⟨ver, 3, 1, [[.int .i64 n]]⟩
theorem rows1_does (m : Int) (l : List TRow) (cur : Int) (hl : l.length < 100000) (hf : ∀ r ∈ l, r.fits) (ver : Nat) (i : Nat) (x : TRow) (hx : l[i]? = some x) :
    Does Tryz.prog (GL m) 65 ([] ++ [.int .i64 (i : Nat), .agg (encR x)] ++ [.fptr [.int .i64 cur], .ptr 0 ver 0 0, .fptr [rowL l]]) [some (nO ver (rowLast cur l i))] fun ae O =>
      ae = .ret (.bool (rowP cur l i)) ∧ ∃ o, O = [some o] ∧ closedLL o.es = true ∧ (rowP cur l i = true → o = nO ver (rowLast cur l (i + 1))) := by
  have hlt := (List.getElem?_eq_some_iff.1 hx).1
  have hfx := hf x (List.mem_of_getElem? hx)
  have hP : rowP cur l i = (rowB cur x && (decide (rowLast cur l i ≤ rowH cur x) && (decide (i = 0) || match l[i - 1]? with
    | some y => decide (y.mag < x.mag)
    | none => false))) := by
    unfold rowP; rw [hx]
  have hN : rowLast cur l (i + 1) = rowH cur x := by simp [rowLast, hx]
  rw [hN]
  obtain ⟨last, hlast⟩ : ∃ n, n = rowLast cur l i := ⟨_, rfl⟩
  rw [← hlast] at hP ⊢
  refine Does.bodyA tab Tryz.func65 rfl rfl ?_
  refine AC.step tab ?_
  refine gos ?_
  intro v1
  refine gos ?_
  refine AC.step tab ?_
  refine gos ?_
  refine CallW.of0 (row_does m x cur hfx.1 hfx.2) rfl ?_
  rintro ae ⟨n, rfl, hn⟩
  refine ⟨rfl, ?_⟩
  refine gos ?_
  refine AC.cutF tab (fun e h => e = [.any, .any, .any, .ptr 0 ver 0 0, .any, .any, .any, .any, .int .i64 n, .bool (rowP cur l i)] ++ List.replicate 29 .any ∧ h = [some (nO ver last)]) ?_ ?_
  · refine gos ?_
    refine DrawW.L ?_
    cases hB : rowB cur x with
    | false =>
      have hp : rowP cur l i = false := by rw [hP, hB]; rfl
      refine gos ?_
      rw [hp]
      exact ⟨_, 1, fgts, rfl, rfl⟩
    | true =>
    have hn2 := hn hB
    subst hn2
    rw [hB, Bool.true_and] at hP
    refine gos ?_
    by_cases h1 : last ≤ rowH cur x
    case neg =>
      have hp : rowP cur l i = false := by rw [hP]; simp [h1]
      refine CmpW.N ?_
      refine gos ?_
      rw [hp]
      exact ⟨_, 1, fgts, rfl, rfl⟩
    refine CmpW.T ?_
    refine gos ?_
    by_cases h2 : i = 0
    · have hp : rowP cur l i = true := by rw [hP]; simp [h1, h2]
      refine CmpW.T ?_
      refine gos ?_
      rw [hp]
      exact ⟨_, 1, fgts, rfl, rfl⟩
    refine CmpW.N ?_
    refine gos ?_
    obtain ⟨y, hy⟩ : ∃ y, l[i - 1]? = some y := ⟨_, List.getElem?_eq_getElem (by omega)⟩
    rw [hy] at hP
    rw [show (i : Int) - 1 = ((i - 1 : Nat) : Int) by omega]
    refine And.intro (encR_two l) (And.intro (by omega) ⟨encR y, map_get hy, ?_⟩)
    refine gos ?_
    refine CmpW.s ?_
    refine gos ?_
    have hp : rowP cur l i = decide (x.mag > y.mag) := by rw [hP]; simp [h1, h2]
    rw [hp]
    exact ⟨_, 1, fgts, rfl, rfl⟩
  rintro e h ⟨rfl, rfl⟩
  refine AC.step tab ?_
  refine gos ?_
  refine AC.go tab ?_
  refine gos ?_
  refine RetW.plain (by simp) ?_
  refine ⟨rfl, _, rfl, rfl, fun h => ?_⟩
  have hB : rowB cur x = true := by rw [hP] at h; cases hb : rowB cur x with
    | true => rfl
    | false => rw [hb] at h; cases h
  rw [hn hB]
  rfl
theorem rows_does (m : Int) (l : List TRow) (cur : Int) (hl : l.length < 100000) (hf : ∀ r ∈ l, r.fits) :
    Does Tryz.prog (GL m) 29 [rowL l, .int .i64 cur] [] fun ae _ => ae = .ret (.bool (rowsF l cur)) := by
  have ll : (l.map encR).length = l.length := by simp
  refine Does.bodyA tab Tryz.func29 rfl rfl ?_
  refine AC.step tab ?_
  refine gos ?_
  intro v1
  refine gos ?_
  intro v2
  refine gos ?_
  refine AC.wk (Wk.ptr (k := 2) (i := 0) rfl rfl rfl rfl rfl) ?_
  refine AC.wk (Wk.ptr (k := 3) (i := 1) rfl rfl rfl rfl rfl) ?_
  refine AC.step tab ?_
  refine gos ?_
  intro v3
  refine gos ?_
  refine AC.go tab ?_
  refine gos ?_
  rw [ll]
  by_cases h16 : l.length ≤ 16
  · refine CmpW.T ?_
    refine gos ?_
    have dE := evR_does (G := GL m) l (rowP cur l) (fun i => nO v3 (rowLast cur l i)) 65 [.int .i64 cur] [rowL l] v3 hl (fun i => rfl) fun i x hx _ => rows1_does m l cur hl hf v3 i x hx
    refine CallW.of1 2 dE rfl rfl rfl rfl ?_
    rintro ae O ⟨rfl, o, rfl, ho⟩
    refine ⟨o, rfl, ho, rfl, ?_⟩
    refine gos ?_
    refine RetW.plain (by simp) ?_
    simp [rowsF, h16]
  · refine CmpW.N ?_
    refine gos ?_
    refine RetW.plain (by simp) ?_
    simp [rowsF, h16]
end Go.Proofs.YtpipbjfcbbdicaaGreatDoor

namespace Go.Proofs.YtpipbjfcbbdicaaGreatDoor
open Go Go.Abs
attribute [local irreducible] DrawW CallW RetW AC Does CmpW
set_option maxRecDepth 100000
variable {G : Globs}

/-- Which categories are there already. -/
structure Fnd where
  c0 : Bool
  c1 : Bool
  c2 : Bool
  c3 : Bool
  c4 : Bool
  c5 : Bool
def rro (ver : Nat) (s : List UInt8) (a n : Nat) (F : Fnd) : AObj := ⟨ver, 117, 9, [[.str s, .int .i64 a, .int .i64 n, .bool F.c0, .bool F.c1, .bool F.c2, .bool F.c3, .bool F.c4, .bool F.c5]]⟩
def rfault (r : Int × Nat) : AV := .iface 112 (.agg [.int .i64 r.1, .int .i64 r.2])

theorem rfail_does (e : Int) (a : Nat) : Does Tryz.prog G 93 [.int .i64 e, .int .i64 a] [] fun ae O => ae = .panic (rfault (e, a)) ∧ O = [] := by
  refine Does.body tab Tryz.func93 rfl rfl ?_
  refine gos ?_
  exact ⟨Nat.le_refl _, rfl, rfl⟩

theorem blanks_does (s : List UInt8) (a n : Nat) (F : Fnd) (ha : a ≤ s.length) (hs : s.length < 100000) (ver : Nat) :
    Does Tryz.prog G 118 [.ptr 0 ver 0 0] [some (rro ver s a n F)] fun ae O => ae = .ret (.tuple []) ∧ O = [some (rro ver s (bl s a) n F)] := by
  refine Does.body tab Tryz.func118 rfl rfl ?_
  refine gos ?_
  refine AC.loopC tab (fun f e h => ∃ k, s.length < f + (a + k) ∧ a + k ≤ s.length ∧ k ≤ tw s (fun c => c == 32) a ∧ e = [.ptr 0 ver 0 0] ++ List.replicate 30 .any ∧ h = [some (rro ver s (a + k) n F)]) (s.length + 1) ⟨_, fgts, 0, by omega, by omega, by omega, rfl, rfl⟩ ?_
  rintro f e h ⟨k, hf, hk, hkt, rfl, rfl⟩
  refine gos ?_
  refine DrawW.L ?_
  refine gos ?_
  by_cases hlt : a + k < s.length
  · obtain ⟨c, hc⟩ : ∃ c, s[a + k]? = some c := ⟨_, List.getElem?_eq_getElem hlt⟩
    refine CmpW.t (by simp; omega) ?_
    refine gos ?_
    refine And.intro (by omega) ⟨c, hc, ?_⟩
    refine gos ?_
    by_cases h32 : c = 32
    · subst h32
      refine CmpW.t (by simp) ?_
      refine gos ?_
      refine ⟨f - 1, _, 1, by omega, fgts, k + 1, by omega, by omega, tw_go hkt hc rfl, rfl, rfl⟩
    · refine CmpW.f (by simp; exact fun h => h32 (u8_of h rfl)) ?_
      refine gos ?_
      have : bl s a = a + k := by unfold bl; rw [← tw_stop hkt fun d hd => by rw [hc] at hd; cases hd; simpa using h32]
      rw [this]
      refine RetW.plain (by simp) ?_
      exact ⟨rfl, rfl⟩
  · refine CmpW.f (by simp; omega) ?_
    refine gos ?_
    have : bl s a = a + k := by unfold bl; rw [← tw_stop hkt fun d hd => by rw [List.getElem?_eq_none (by omega)] at hd; cases hd]
    rw [this]
    refine RetW.plain (by simp) ?_
    exact ⟨rfl, rfl⟩

/-- The byte behind blanks; nought at the end. -/
def pk (s : List UInt8) (a : Nat) : Nat := match s[bl s a]? with | some c => c.toNat | none => 0
theorem peek_does (s : List UInt8) (a n : Nat) (F : Fnd) (ha : a ≤ s.length) (hs : s.length < 100000) (ver : Nat) :
    Does Tryz.prog G 90 [.ptr 0 ver 0 0] [some (rro ver s a n F)] fun ae O => ae = .ret (.int .u8 (pk s a)) ∧ O = [some (rro ver s (bl s a) n F)] := by
  refine Does.body tab Tryz.func90 rfl rfl ?_
  refine gos ?_
  refine CallW.meth 0 (blanks_does s a n F ha hs ver) rfl rfl rfl rfl rfl rfl ?_
  refine gos ?_
  refine DrawW.L ?_
  refine gos ?_
  have hb := bl_le ha
  by_cases hlt : bl s a < s.length
  · obtain ⟨c, hc⟩ : ∃ c, s[bl s a]? = some c := ⟨_, List.getElem?_eq_getElem hlt⟩
    refine CmpW.f (by simp; omega) ?_
    refine gos ?_
    refine DrawW.L ?_
    refine gos ?_
    refine And.intro (by omega) ⟨c, hc, ?_⟩
    refine gos ?_
    refine RetW.plain (by simp) ?_
    simp only [pk, hc]
    exact ⟨trivial, rfl⟩
  · refine CmpW.t (by simp; omega) ?_
    refine gos ?_
    refine RetW.plain (by simp) ?_
    simp only [pk, List.getElem?_eq_none (show s.length ≤ bl s a by omega)]
    exact ⟨rfl, rfl⟩

theorem take_does (s t : List UInt8) (a n : Nat) (F : Fnd) (ha : a ≤ s.length) (hs : s.length < 100000) (ver : Nat) :
    Does Tryz.prog G 92 [.ptr 0 ver 0 0, .str t] [some (rro ver s a n F)] fun ae O => ae = .ret (.bool (pre s (bl s a) t)) ∧ O = [some (rro ver s (if pre s (bl s a) t then bl s a + t.length else bl s a) n F)] := by
  refine Does.body tab Tryz.func92 rfl rfl ?_
  refine gos ?_
  refine CallW.meth 0 (blanks_does s a n F ha hs ver) rfl rfl rfl rfl rfl rfl ?_
  refine gos ?_
  refine DrawW.L ?_
  have hb := bl_le ha
  refine gos ?_
  refine And.intro (And.intro (by omega) (by omega)) ?_
  refine CallW.pure (HasPrefix_does G _ _) rfl rfl ?_
  have h' : t.isPrefixOf (s.drop (bl s a : Int).toNat) = pre s (bl s a) t := rfl
  rw [h']
  cases hp : pre s (bl s a) t with
  | true =>
    have hle : bl s a + t.length ≤ s.length := by
      by_cases h0 : t = []
      · subst h0; simpa using hb.2
      · exact pre_le hp h0
    refine gos ?_
    refine RetW.plain (by simp) ?_
    simp only [if_true]
    exact ⟨trivial, rfl⟩
  | false =>
    refine gos ?_
    refine RetW.plain (by simp) ?_
    exact ⟨rfl, rfl⟩

theorem want_does (s t : List UInt8) (a n : Nat) (F : Fnd) (ha : a ≤ s.length) (hs : s.length < 100000) (ver : Nat) :
    Does Tryz.prog G 121 [.ptr 0 ver 0 0, .str t] [some (rro ver s a n F)] fun ae O => match pre s (bl s a) t with
      | true => ae = .ret (.tuple []) ∧ O = [some (rro ver s (bl s a + t.length) n F)]
      | false => ae = .panic (rfault (1, bl s a)) := by
  refine Does.body tab Tryz.func121 rfl rfl ?_
  refine gos ?_
  refine CallW.meth 0 (take_does s t a n F ha hs ver) rfl rfl rfl rfl rfl rfl ?_
  cases hp : pre s (bl s a) t with
  | true =>
    simp only [if_true]
    refine gos ?_
    refine RetW.plain (by simp) ?_
    exact ⟨rfl, rfl⟩
  | false =>
    simp only [Bool.false_eq_true, if_false]
    refine gos ?_
    refine CallW.of0 (rfail_does 1 (bl s a)) rfl ?_
    rintro ae ⟨rfl, _⟩
    refine ⟨rfl, ?_⟩
    refine gos ?_
    exact ⟨by simp, rfl⟩

theorem run_does (s : List UInt8) (lo hi : UInt8) (a n : Nat) (F : Fnd) (ha : a ≤ s.length) (hs : s.length < 100000) (ver : Nat) :
    Does Tryz.prog G 143 [.ptr 0 ver 0 0, .int .u8 lo.toNat, .int .u8 hi.toNat] [some (rro ver s a n F)] fun ae O => ae = .ret (.int .i64 (tw s (fun c => lo ≤ c && c ≤ hi) a)) ∧ O = [some (rro ver s a n F)] := by
  refine Does.body tab Tryz.func143 rfl rfl ?_
  refine gos ?_
  refine AC.loopC tab (fun f e h => ∃ k : Nat, s.length < f + (a + k) ∧ a + k ≤ s.length ∧ k ≤ tw s (fun c => lo ≤ c && c ≤ hi) a ∧ e = [.ptr 0 ver 0 0, .int .u8 lo.toNat, .int .u8 hi.toNat, .any, .any, .any, .any, .int .i64 k] ++ List.replicate 45 .any ∧ h = [some (rro ver s a n F)]) (s.length + 1) ⟨_, fgts, 0, by omega, by omega, by omega, rfl, rfl⟩ ?_
  rintro f e h ⟨k, hf, hk, hkt, rfl, rfl⟩
  refine gos ?_
  refine DrawW.L ?_
  refine gos ?_
  have stop : (∀ d, s[a + k]? = some d → (lo ≤ d && d ≤ hi) = false) → k = tw s (fun c => lo ≤ c && c ≤ hi) a := tw_stop hkt
  by_cases hlt : a + k < s.length
  · obtain ⟨c, hc⟩ : ∃ c, s[a + k]? = some c := ⟨_, List.getElem?_eq_getElem hlt⟩
    refine CmpW.t (by simp; omega) ?_
    refine gos ?_
    refine And.intro (by omega) ⟨c, hc, ?_⟩
    refine gos ?_
    by_cases h1 : lo ≤ c
    · have h1' : lo.toNat ≤ c.toNat := h1
      refine CmpW.t (by simp; omega) ?_
      refine gos ?_
      refine And.intro (by omega) ⟨c, hc, ?_⟩
      refine gos ?_
      by_cases h2 : c ≤ hi
      · have h2' : c.toNat ≤ hi.toNat := h2
        refine CmpW.t (by simp; omega) ?_
        refine gos ?_
        refine ⟨f - 1, _, 1, by omega, fgts, k + 1, by omega, by omega, tw_go hkt hc (by simp [h1, h2]), rfl, rfl⟩
      · have h2' : ¬ c.toNat ≤ hi.toNat := h2
        refine CmpW.f (by simp; omega) ?_
        refine gos ?_
        rw [← stop fun d hd => by rw [hc] at hd; cases hd; simp [h2]]
        refine RetW.plain (by simp) ?_
        exact ⟨rfl, rfl⟩
    · have h1' : ¬ lo.toNat ≤ c.toNat := h1
      refine CmpW.f (by simp; omega) ?_
      refine gos ?_
      rw [← stop fun d hd => by rw [hc] at hd; cases hd; simp [h1]]
      refine RetW.plain (by simp) ?_
      exact ⟨rfl, rfl⟩
  · refine CmpW.f (by simp; omega) ?_
    refine gos ?_
    rw [← stop fun d hd => by rw [List.getElem?_eq_none (by omega)] at hd; cases hd]
    refine RetW.plain (by simp) ?_
    exact ⟨rfl, rfl⟩

/-- The next word. -/
def wd (s : List UInt8) (a : Nat) : List UInt8 := (s.drop (bl s a)).takeWhile fun c => 97 ≤ c && c ≤ 122
theorem word_does (s : List UInt8) (a n : Nat) (F : Fnd) (ha : a ≤ s.length) (hs : s.length < 100000) (ver : Nat) :
    Does Tryz.prog G 119 [.ptr 0 ver 0 0] [some (rro ver s a n F)] fun ae O => ae = .ret (.str (wd s a)) ∧ O = [some (rro ver s (bl s a) n F)] := by
  refine Does.body tab Tryz.func119 rfl rfl ?_
  refine gos ?_
  refine CallW.meth 0 (blanks_does s a n F ha hs ver) rfl rfl rfl rfl rfl rfl ?_
  refine gos ?_
  have hb := bl_le ha
  have hw := tw_le (fun c => (97 : UInt8) ≤ c && c ≤ 122) hb.2
  have hr := run_does (G := G) s 97 122 (bl s a) n F hb.2 hs ver
  refine DrawW.P (.take 0 (.take 1 (.take 2 (.take 4 (.take 5 (.take 6 (.take 8 (.take 9 (.take 10 (.take 12 (.fork (.cons 3 (.fork (.cons 7 (.fork (.cons 11 (.take 13 (.take 14 (.take 15 (.take 16 .done)))) (.cons 13 (.take 11 (.take 14 (.take 15 (.take 16 .done)))) .nil))) (.cons 11 (.fork (.cons 7 (.take 13 (.take 14 (.take 15 (.take 16 .done)))) (.cons 13 (.take 7 (.take 14 (.take 15 (.take 16 .done)))) .nil))) (.cons 13 (.take 7 (.take 11 (.take 14 (.take 15 (.take 16 .done))))) .nil)))) (.cons 7 (.fork (.cons 3 (.fork (.cons 11 (.take 13 (.take 14 (.take 15 (.take 16 .done)))) (.cons 13 (.take 11 (.take 14 (.take 15 (.take 16 .done)))) .nil))) (.cons 11 (.fork (.cons 3 (.take 13 (.take 14 (.take 15 (.take 16 .done)))) (.cons 13 (.take 3 (.take 14 (.take 15 (.take 16 .done)))) .nil))) (.cons 13 (.take 3 (.take 11 (.take 14 (.take 15 (.take 16 .done))))) .nil)))) (.cons 11 (.fork (.cons 3 (.fork (.cons 7 (.take 13 (.take 14 (.take 15 (.take 16 .done)))) (.cons 13 (.take 7 (.take 14 (.take 15 (.take 16 .done)))) .nil))) (.cons 7 (.fork (.cons 3 (.take 13 (.take 14 (.take 15 (.take 16 .done)))) (.cons 13 (.take 3 (.take 14 (.take 15 (.take 16 .done)))) .nil))) (.cons 13 (.take 3 (.take 7 (.take 14 (.take 15 (.take 16 .done))))) .nil)))) (.cons 13 (.take 3 (.take 7 (.take 11 (.take 14 (.take 15 (.take 16 .done)))))) .nil))))))))))))))) ?_
  (repeat' (first | exact trivial | refine gon ?_ | refine CallW.meth 0 hr rfl rfl rfl rfl rfl rfl ?_ | refine And.intro (And.intro (by omega) (And.intro (by omega) (by omega))) ?_ | refine And.intro ?_ ?_))
  all_goals
    refine RetW.plain (by simp) ?_
    refine ⟨?_, rfl⟩
    rw [show ((bl s a : Int) + (tw s (fun c => (97 : UInt8) ≤ c && c ≤ 122) (bl s a) : Int)).toNat = bl s a + tw s (fun c => (97 : UInt8) ≤ c && c ≤ 122) (bl s a) by omega, Int.toNat_natCast, tw_text]
    rfl
end Go.Proofs.YtpipbjfcbbdicaaGreatDoor
