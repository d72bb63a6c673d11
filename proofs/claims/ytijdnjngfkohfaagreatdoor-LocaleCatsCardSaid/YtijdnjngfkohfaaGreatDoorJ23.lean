/- Numbers below the greatest that has bytes. -/
import Derived.Test.YtijdnjngfkohfaaGreatDoorJ19
import Derived.Test.YtijdnjngfkohfaaGreatDoorJ08
import Derived.Test.YtijdnjngfkohfaaGreatDoorJ22
import Derived.Test.YtijdnjngfkohfaaGreatDoorJ17
import Derived.Test.YtijdnjngfkohfaaGreatDoorJ18
set_option linter.unusedVariables false
set_option linter.unusedSimpArgs false
set_option maxRecDepth 100000
set_option maxHeartbeats 4000000

namespace Go.Proofs.YtijdnjngfkohfaaGreatDoor
open Go Go.Abs
attribute [local irreducible] DrawW CallW RetW AC Does CmpW
variable {G : Globs}
def catG (l : List TTxt) (i : Nat) : Bool := match l[i]? with
  | some x => decide (0 ≤ x.cat) && (decide (i = 0) || match l[i - 1]? with
    | some y => decide (y.cat < x.cat)
    | none => false)
  | none => false
def lastC (l : List TTxt) : Bool := match l.getLast? with
  | some x => decide (x.cat = 5)
  | none => false
def catsF (l : List TTxt) (ok : Nat → Bool) : Bool := lastC l && allB (fun i => catG l i && ok i) l.length
theorem cats1_does (l : List TTxt) (hl : l.length < 100000) (i : Nat) (x : TTxt) (hx : l[i]? = some x) (fid : FuncId) (cap : List AV) (hcap : closedL cap = true) (r : Bool)
    (hok : Does Tryz.prog G fid ([] ++ [.str x.text] ++ cap) [] fun ae _ => ae = .ret (.bool r)) :
    Does Tryz.prog G 170 ([] ++ [.int .i64 (i : Nat), .agg (encT x)] ++ [.fptr [txtL l], .fptr [.func (.func fid) [] cap]]) [] fun ae _ => ae = .ret (.bool (catG l i && r)) := by
  have hlt := (List.getElem?_eq_some_iff.1 hx).1
  refine Does.body tab Tryz.func170 rfl rfl ?_
  refine gos ?_
  intro v1
  refine gos ?_
  refine DrawW.L ?_
  refine gos ?_
  have hG : catG l i = (decide (0 ≤ x.cat) && (decide (i = 0) || match l[i - 1]? with
    | some y => decide (y.cat < x.cat)
    | none => false)) := by unfold catG; rw [hx]
  by_cases h0 : 0 ≤ x.cat
  case neg =>
    refine CmpW.N ?_
    refine gos ?_
    refine RetW.plain (by simp) ?_
    rw [hG]; simp [h0]
  refine CmpW.T ?_
  refine gos ?_
  by_cases hi : i = 0
  · refine CmpW.T ?_
    refine gos ?_
    refine CallW.pure hok (by simp [closedL, closed, hcap]) rfl ?_
    refine gos ?_
    refine RetW.plain (by simp) ?_
    rw [hG]; simp [h0, hi]
  refine CmpW.N ?_
  refine gos ?_
  obtain ⟨y, hy⟩ : ∃ y, l[i - 1]? = some y := ⟨_, List.getElem?_eq_getElem (by omega)⟩
  rw [show (i : Int) - 1 = ((i - 1 : Nat) : Int) by omega]
  refine And.intro (encT_two l) (And.intro (by omega) ⟨encT y, map_get hy, ?_⟩)
  refine gos ?_
  by_cases hc : y.cat < x.cat
  · refine CmpW.T ?_
    refine gos ?_
    refine CallW.pure hok (by simp [closedL, closed, hcap]) rfl ?_
    refine gos ?_
    refine RetW.plain (by simp) ?_
    rw [hG, hy]; simp [h0, hi, hc]
  · refine CmpW.N ?_
    refine gos ?_
    refine RetW.plain (by simp) ?_
    rw [hG, hy]; simp [h0, hi, hc]
theorem last_get {l : List TTxt} {y : TTxt} (h : l[l.length - 1]? = some y) : lastC l = decide (y.cat = 5) := by
  unfold lastC; rw [List.getLast?_eq_getElem?, h]
theorem cats_does (l : List TTxt) (hl : l.length < 100000) (fid : FuncId) (cap : List AV) (hcap : closedL cap = true) (ok : Nat → Bool)
    (hok : ∀ (i : Nat) (x : TTxt), l[i]? = some x → Does Tryz.prog G fid ([] ++ [.str x.text] ++ cap) [] fun ae _ => ae = .ret (.bool (ok i))) :
    Does Tryz.prog G 98 [txtL l, .func (.func fid) [] cap] [] fun ae _ => ae = .ret (.bool (catsF l ok)) := by
  have ll : (l.map encT).length = l.length := by simp
  refine Does.bodyA tab Tryz.func98 rfl rfl ?_
  refine AC.step tab ?_
  refine gos ?_
  intro v1
  refine gos ?_
  intro v2
  refine gos ?_
  refine AC.wk (Wk.ptr (k := 2) (i := 0) rfl rfl rfl rfl rfl) ?_
  refine AC.wk (Wk.ptr (k := 3) (i := 1) rfl rfl rfl rfl (by simp [closedLL, closedL, closed, hcap])) ?_
  refine AC.step tab ?_
  refine gos ?_
  rw [ll]
  by_cases h0 : l.length = 0
  · have h0' : l = [] := List.eq_nil_of_length_eq_zero h0
    refine CmpW.T ?_
    refine gos ?_
    refine RetW.plain (by simp) ?_
    subst h0'
    rfl
  refine CmpW.N ?_
  refine gos ?_
  obtain ⟨y, hy⟩ : ∃ y, l[l.length - 1]? = some y := ⟨_, List.getElem?_eq_getElem (by omega)⟩
  rw [ll, show (l.length : Int) - 1 = ((l.length - 1 : Nat) : Int) by omega]
  refine gos ?_
  refine And.intro (encT_two l) (And.intro (by omega) ⟨encT y, map_get hy, ?_⟩)
  refine gos ?_
  have hL := last_get hy
  by_cases h5 : y.cat = 5
  case neg =>
    refine CmpW.t (by simpa using h5) ?_
    refine gos ?_
    refine RetW.plain (by simp) ?_
    rw [catsF, hL]; simp [h5]
  refine CmpW.f (by simpa using h5) ?_
  refine gos ?_
  refine AC.go tab ?_
  refine gos ?_
  refine CallW.pure (evT_does l (fun i => catG l i && ok i) 170 [.fptr [txtL l], .fptr [.func (.func fid) [] cap]] rfl hl fun i x hx => cats1_does l hl i x hx fid cap hcap (ok i) (hok i x hx)) rfl rfl ?_
  refine gos ?_
  refine RetW.plain (by simp) ?_
  rw [catsF, hL]; simp [h5]
def plcOk (n : Int) (s : List UInt8) : Bool := match braF s n with
  | .ok _ => decide (s.length ≤ 60)
  | .error _ => false
theorem braF_bad {s : List UInt8} {n : Int} {e : Int × Nat} (h : braF s n = .error e) : e.1 = 1 ∨ e.1 = 3 := by
  unfold braF at h
  split at h
  · simp at h; subst h; exact .inl rfl
  have key : ∀ (f i : Nat) (seen : List Nat) (B : Bra) (e : Int × Nat), braL s n f i seen B = .error e → e.1 = 1 ∨ e.1 = 3 := by
    intro f
    induction f with
    | zero => intro i seen B e h; simp [braL] at h
    | succ f ih =>
      intro i seen B e h
      unfold braL at h
      split at h
      · cases h
      split at h
      · simp at h; subst h; exact .inl rfl
      split at h
      · split at h
        · simp at h; subst h; exact .inl rfl
        split at h
        · simp at h; subst h; exact .inr rfl
        · exact ih _ _ _ _ h
      · exact ih _ _ _ _ h
  split at h
  · rename_i r hr
    simp at h; subst h
    exact key _ _ _ _ _ hr
  · split at h
    · simp at h; subst h; exact .inr rfl
    · cases h
theorem places1_does (m : Int) (s : List UInt8) (n : Int) (hs : s.length < 100000) (hn : -9223372036854775808 ≤ n ∧ n ≤ 9223372036854775807) :
    Does Tryz.prog (GL m) 171 ([] ++ [.str s] ++ [.fptr [.int .i64 n]]) [] fun ae _ => ae = .ret (.bool (plcOk n s)) := by
  refine Does.bodyA tab Tryz.func171 rfl rfl ?_
  refine AC.step tab ?_
  refine gos ?_
  refine AC.step tab ?_
  refine gos ?_
  have dB := BParse_does m s n hs hn
  cases hE : braF s n with
  | error e =>
    have hb := braF_bad hE
    rw [hE] at dB
    refine CallW.pure dB rfl rfl ?_
    (repeat (first | refine gof ?_ | refine fun (vv : Nat) => ?_))
    refine AC.go tab ?_
    refine gos ?_
    refine CmpW.f (by simp; omega) ?_
    refine gos ?_
    refine RetW.plain (by simp) ?_
    simp [plcOk, hE]
  | ok q =>
    obtain ⟨ts, ps⟩ := q
    rw [hE] at dB
    refine CallW.pure dB rfl rfl ?_
    (repeat (first | refine gof ?_ | refine fun (vv : Nat) => ?_))
    refine AC.go tab ?_
    refine gos ?_
    refine CmpW.s ?_
    refine gos ?_
    refine RetW.plain (by simp) ?_
    simp only [plcOk, hE]
    congr 2
    rw [Bool.eq_iff_iff]; simp; omega
def plcV (n : Int) : AV := .func (.func 171) [] [.fptr [.int .i64 n]]
theorem places_does (n : Int) : Does Tryz.prog G 99 [.int .i64 n] [] fun ae _ => ae = .ret (plcV n) := by
  refine Does.bodyA tab Tryz.func99 rfl rfl ?_
  refine AC.step tab ?_
  refine gos ?_
  intro v1
  refine gos ?_
  refine AC.wk (Wk.ptr (k := 1) (i := 0) rfl rfl rfl rfl rfl) ?_
  refine AC.go tab ?_
  refine gos ?_
  refine RetW.plain (by simp) ?_
  rfl
end Go.Proofs.YtijdnjngfkohfaaGreatDoor

namespace Go.Proofs.YtijdnjngfkohfaaGreatDoor
open Go Go.Abs
attribute [local irreducible] DrawW CallW RetW AC Does CmpW
variable {G : Globs}
structure FS where
  z : Nat
  nb : Bool
  x : Aff
  two : Bool
  N : Num
def FS.ok (q : FS) : Prop := q.x.ok
def FS.cells (q : FS) : List AV := .int .i64 (q.z : Int) :: .bool q.nb :: patCells q.x q.two q.N
def fsO (ver : Nat) (q : FS) : AObj := ⟨ver, 218, 13, [q.cells]⟩
def fs0 : FS := ⟨0, false, ⟨.nils, .nils, .nils, .nils⟩, false, Num.zero⟩
def fsV (v : PatV) : FS := ⟨v.N.mi, noopF v, affV v, v.two, v.N⟩
theorem fs0_ok : fs0.ok := ⟨rfl, rfl, rfl, rfl⟩
theorem fsV_ok (v : PatV) : (fsV v).ok := by
  obtain ⟨p, q, p', q', two, N⟩ := v
  cases two <;> exact ⟨rfl, rfl, rfl, rfl⟩
theorem fsO_closed {ver : Nat} {q : FS} (h : q.ok) : closedLL (fsO ver q).es = true := by
  obtain ⟨h1, h2, h3, h4⟩ := h
  simp [fsO, closedLL, closedL, FS.cells, patCells, closed, h1, h2, h3, h4]
def clash (q : FS) (v : PatV) : Bool := decide (0 < q.z) && (decide (v.N.mi ≠ q.z) || decide (noopF v ≠ q.nb))
def rowS (q : FS) (s : List UInt8) : FS := match cpaE s with
  | .error _ => q
  | .ok v => if clash q v then q else fsV v
def rowR (q : FS) (cur : Int) (s : List UInt8) : Bool := match cpaE s with
  | .error _ => false
  | .ok v => !clash q v && (decide (s.length ≤ 60) && (noopF v || sdsF v cur 0))
theorem cpaE_bad {s : List UInt8} {e : Int × Int} (h : cpaE s = .error e) : e.1 = 1 ∨ e.1 = 2 ∨ e.1 = 3 := by
  unfold cpaE at h
  split at h
  · rename_i x hx
    simp at h; subst h
    rcases parE_bad hx with h | h
    · exact .inl h
    · exact .inr (.inl h)
  · split at h
    · simp at h; subst h; exact .inr (.inr rfl)
    · cases h
theorem row1_does (m : Int) (q : FS) (hq : q.ok) (ver : Nat) (cur : Int) (s : List UInt8) (hs : s.length < 100000) :
    Does Tryz.prog (GL m) 214 ([] ++ [.str s] ++ [.ptr 0 ver 0 0, .fptr [.int .i64 cur]]) [some (fsO ver q)] fun ae O => ae = .ret (.bool (rowR q cur s)) ∧ O = [some (fsO ver (rowS q s))] := by
  have dP := CParse_does (m := m) s hs
  refine Does.bodyA tab Tryz.func214 rfl rfl ?_
  refine AC.step tab ?_
  refine gos ?_
  refine AC.step tab ?_
  refine gos ?_
  cases hE : cpaE s with
  | error e =>
    have hb := cpaE_bad hE
    rw [hE] at dP
    refine CallW.pure dP rfl rfl ?_
    (repeat (first | refine gof ?_ | refine fun (vv : Nat) => ?_))
    refine AC.step tab ?_
    refine gos ?_
    refine CmpW.t (by simp; omega) ?_
    refine gos ?_
    refine RetW.plain (by simp) ?_
    simp [rowR, rowS, hE]
  | ok v =>
    have hv := cpaE_small hE
    have dS := vsides_does (G := GL m) v hv cur 0
    have hR : rowR q cur s = (!clash q v && (decide (s.length ≤ 60) && (noopF v || sdsF v cur 0))) := by simp [rowR, hE]
    have hS : rowS q s = if clash q v then q else fsV v := by simp [rowS, hE]
    rw [hE] at dP
    rw [hR, hS]
    have hcl : clash q v = (decide (0 < q.z) && (decide (v.N.mi ≠ q.z) || decide (noopF v ≠ q.nb))) := rfl
    have hfV : fsV v = ⟨v.N.mi, noopF v, affV v, v.two, v.N⟩ := rfl
    unfold cpaV encC at dP
    simp only at dP
    rw [hfV]
    generalize sdsF v cur 0 = SD at dS ⊢
    generalize noopF v = nv at dP hcl ⊢
    generalize clash q v = cl at hcl ⊢
    clear hR hS hE hfV hv
    obtain ⟨p, r, p', r', two, N⟩ := v
    obtain ⟨z, nb, x0, tw, N0⟩ := q
    simp only at hcl
    obtain ⟨FV, hFV⟩ : ∃ FV : FS, FV = ⟨N.mi, nv, affV ⟨p, r, p', r', two, N⟩, two, N⟩ := ⟨_, rfl⟩
    have hEq : (⟨N.mi, nv, affV ⟨p, r, p', r', two, N⟩, two, N⟩ : FS) = FV := hFV.symm
    rw [hEq]
    clear hEq
    cases two
    all_goals
      refine CallW.pure dP rfl rfl ?_
      (repeat (first | refine gof ?_ | refine fun (vv : Nat) => ?_))
      refine AC.cutF tab (fun e h => cl = false ∧ e = [.str s, .ptr 0 ver 0 0, .fptr [.int .i64 cur], .any, .any, .ptr 1 vv 0 0] ++ List.replicate 43 .any ∧
        h = [some (fsO ver ⟨z, nb, x0, tw, N0⟩), some (fsO vv FV)]) ?_ ?_
      · subst hFV
        refine gos ?_
        by_cases h1 : 0 < z
        case neg =>
          refine CmpW.f (by simp; omega) ?_
          refine gos ?_
          have : cl = false := by rw [hcl]; simp [h1]
          exact ⟨_, 2, fgts, this, rfl, rfl⟩
        refine CmpW.t (by simp; omega) ?_
        refine gos ?_
        by_cases h2 : N.mi = z
        case neg =>
          refine CmpW.t (by simp; omega) ?_
          refine gos ?_
          have : cl = true := by rw [hcl]; simp [h1, h2]
          refine RetW.plain (by simp) ?_
          rw [this]
          exact ⟨rfl, rfl⟩
        refine CmpW.f (by simp; omega) ?_
        refine gos ?_
        cases nv <;> cases nb
        · refine gos ?_
          have : cl = false := by rw [hcl]; simp [h1, h2]
          exact ⟨_, 2, fgts, this, rfl, rfl⟩
        · refine gos ?_
          have : cl = true := by rw [hcl]; simp [h1]
          refine RetW.plain (by simp) ?_
          rw [this]
          exact ⟨rfl, rfl⟩
        · refine gos ?_
          have : cl = true := by rw [hcl]; simp [h1]
          refine RetW.plain (by simp) ?_
          rw [this]
          exact ⟨rfl, rfl⟩
        · refine gos ?_
          have : cl = false := by rw [hcl]; simp [h1, h2]
          exact ⟨_, 2, fgts, this, rfl, rfl⟩
      rintro e h ⟨rfl, rfl, rfl⟩
      subst hFV
      refine AC.step tab ?_
      refine gos ?_
      refine AC.go tab ?_
      refine gos ?_
      by_cases h60 : s.length ≤ 60
      case neg =>
        refine CmpW.N ?_
        refine gos ?_
        refine RetW.plain (by simp) ?_
        exact ⟨by simp [h60], rfl⟩
      refine CmpW.T ?_
      cases nv with
      | true =>
        refine gos ?_
        refine RetW.plain (by simp) ?_
        exact ⟨by simp [h60], rfl⟩
      | false =>
        refine gos ?_
        refine CallW.pure dS rfl rfl ?_
        refine gos ?_
        refine RetW.plain (by simp) ?_
        exact ⟨by simp [h60], rfl⟩
end Go.Proofs.YtijdnjngfkohfaaGreatDoor

namespace Go.Proofs.YtijdnjngfkohfaaGreatDoor
open Go Go.Abs
set_option linter.unusedVariables false
set_option linter.unusedSimpArgs false
def bsG (c : List Rg) (r : Int) : Nat → Nat → Nat → Nat
  | 0, i, _ => i
  | k + 1, i, j => if i < j then (match c[(i + j) / 2]? with
      | some x => if (x.2.val : Int) < r then bsG c r k ((i + j) / 2 + 1) j else bsG c r k i ((i + j) / 2)
      | none => i) else i
def bsF (c : List Rg) (r : Int) : Nat := bsG c r c.length 0 c.length
def hasF (c : List Rg) (r : Int) : Bool := match c[bsF c r]? with
  | some x => decide ((x.1.val : Int) ≤ r)
  | none => false
def inR (r : Int) (x : Rg) : Prop := (x.1.val : Int) ≤ r ∧ r ≤ (x.2.val : Int)
def Sep (c : List Rg) : Prop := c.Pairwise (fun a b => a.2.val < b.1.val) ∧ ∀ x ∈ c, x.1.val ≤ x.2.val
theorem merg_all : ∀ (l out : List Rg), Sep out → l.Pairwise (fun a b => a.1.val ≤ b.1.val) → (∀ x ∈ l, x.1.val ≤ x.2.val) → (∀ y ∈ out, ∀ x ∈ l, y.1.val ≤ x.1.val) →
    Sep (l.foldl mergR out) ∧ ∀ r, (∃ x ∈ l.foldl mergR out, inR r x) ↔ ((∃ x ∈ out, inR r x) ∨ ∃ x ∈ l, inR r x)
  | [], out, hs, _, _, _ => by simpa using hs
  | x :: l, out, hs, hp, ho, hlo => by
    have hx := ho x (by simp)
    obtain ⟨hp1, hp2⟩ := List.pairwise_cons.1 hp
    have key : Sep (mergR out x) ∧ (∀ y ∈ mergR out x, y.1.val ≤ x.1.val) ∧ ∀ r, (∃ y ∈ mergR out x, inR r y) ↔ ((∃ y ∈ out, inR r y) ∨ inR r x) := by
      rcases List.eq_nil_or_concat out with rfl | ⟨a, y, rfl⟩
      · refine ⟨⟨by simp [mergR], by simpa [mergR] using hx⟩, by simp [mergR], by simp [mergR]⟩
      · simp only [List.concat_eq_append] at *
        obtain ⟨h1, h2⟩ := hs
        have hya : ∀ z ∈ a, z.2.val < y.1.val := fun z hz => (List.pairwise_append.1 h1).2.2 z hz y (by simp)
        have hy := h2 y (by simp)
        have hyx := hlo y (by simp) x (by simp)
        rw [mergR_snoc]
        split
        · next hc =>
          have hv : (if y.2.val < x.2.val then x.2 else y.2).val = if y.2.val < x.2.val then x.2.val else y.2.val := by split <;> rfl
          refine ⟨⟨?_, ?_⟩, ?_, ?_⟩
          · rw [List.pairwise_append]
            refine ⟨(List.pairwise_append.1 h1).1, by simp, fun z hz w hw => ?_⟩
            rw [List.mem_singleton] at hw
            subst hw
            exact hya z hz
          · intro z hz
            rcases List.mem_append.1 hz with hz | hz
            · exact h2 z (by simp [hz])
            · rw [List.mem_singleton] at hz
              subst hz
              show y.1.val ≤ (if y.2.val < x.2.val then x.2 else y.2).val
              rw [hv]
              split <;> omega
          · intro z hz
            rcases List.mem_append.1 hz with hz | hz
            · exact hlo z (by simp [hz]) x (by simp)
            · rw [List.mem_singleton] at hz
              subst hz
              exact hyx
          · intro r
            simp only [List.mem_append, List.mem_singleton, inR]
            constructor
            · rintro ⟨z, hz | rfl, e1, e2⟩
              · exact .inl ⟨z, .inl hz, e1, e2⟩
              · simp only [hv] at e1 e2
                by_cases h4 : r ≤ y.2.val
                · exact .inl ⟨y, .inr rfl, e1, h4⟩
                · refine .inr ⟨by omega, ?_⟩
                  split at e2 <;> omega
            · rintro (⟨z, hz | rfl, e1, e2⟩ | ⟨e1, e2⟩)
              · exact ⟨z, .inl hz, e1, e2⟩
              · refine ⟨_, .inr rfl, e1, ?_⟩
                rw [hv]
                split <;> omega
              · refine ⟨_, .inr rfl, ?_, ?_⟩
                · show (y.1.val : Int) ≤ r
                  omega
                · rw [hv]
                  split <;> omega
        · next hc =>
          refine ⟨⟨?_, ?_⟩, ?_, ?_⟩
          · rw [List.pairwise_append]
            refine ⟨h1, by simp, fun z hz w hw => ?_⟩
            rw [List.mem_singleton] at hw
            subst hw
            rcases List.mem_append.1 hz with hz | hz
            · have := hya z hz; omega
            · rw [List.mem_singleton] at hz; subst hz; omega
          · intro z hz
            rcases List.mem_append.1 hz with hz | hz
            · exact h2 z hz
            · rw [List.mem_singleton] at hz; subst hz; exact hx
          · intro z hz
            rcases List.mem_append.1 hz with hz | hz
            · exact hlo z hz x (by simp)
            · rw [List.mem_singleton] at hz; subst hz; exact Nat.le_refl _
          · intro r
            constructor
            · rintro ⟨z, hz, e⟩
              rcases List.mem_append.1 hz with hz | hz
              · exact .inl ⟨z, hz, e⟩
              · rw [List.mem_singleton] at hz; subst hz; exact .inr e
            · rintro (⟨z, hz, e⟩ | e)
              · exact ⟨z, List.mem_append.2 (.inl hz), e⟩
              · exact ⟨x, List.mem_append.2 (.inr (by simp)), e⟩
    obtain ⟨k1, k2, k3⟩ := key
    have ih := merg_all l (mergR out x) k1 hp2 (fun z hz => ho z (by simp [hz])) (fun z hz w hw => Nat.le_trans (k2 z hz) (hp1 w hw))
    refine ⟨ih.1, fun r => ?_⟩
    rw [List.foldl_cons, ih.2 r, k3 r]
    simp only [List.mem_cons, exists_eq_or_imp, or_assoc]
theorem bsG_spec (c : List Rg) (r : Int) (hs : c.Pairwise (fun a b => a.2.val < b.2.val)) : ∀ (k i j : Nat), j ≤ i + k → i ≤ j → j ≤ c.length →
    (∀ (n : Nat) (x : Rg), n < i → c[n]? = some x → (x.2.val : Int) < r) → (∀ (n : Nat) (x : Rg), j ≤ n → c[n]? = some x → r ≤ (x.2.val : Int)) →
    (∀ (n : Nat) (x : Rg), n < bsG c r k i j → c[n]? = some x → (x.2.val : Int) < r) ∧ (∀ (n : Nat) (x : Rg), bsG c r k i j ≤ n → c[n]? = some x → r ≤ (x.2.val : Int))
  | 0, i, j, h1, h2, _, hi, hj => by
    have : i = j := by omega
    subst this
    exact ⟨hi, hj⟩
  | k + 1, i, j, h1, h2, h3, hi, hj => by
    rw [bsG]
    by_cases h : i < j
    · rw [if_pos h]
      have hm : (i + j) / 2 < c.length := by omega
      rw [List.getElem?_eq_getElem hm]
      simp only
      split
      · next hc =>
        refine bsG_spec c r hs k _ _ (by omega) (by omega) h3 (fun n x hn hx => ?_) hj
        obtain ⟨hl, rfl⟩ := List.getElem?_eq_some_iff.1 hx
        rcases Nat.lt_or_ge n ((i + j) / 2) with h5 | h5
        · have := List.pairwise_iff_getElem.1 hs n ((i + j) / 2) hl hm h5
          omega
        · have : n = (i + j) / 2 := by omega
          subst this
          exact hc
      · next hc =>
        refine bsG_spec c r hs k _ _ (by omega) (by omega) (by omega) hi (fun n x hn hx => ?_)
        obtain ⟨hl, rfl⟩ := List.getElem?_eq_some_iff.1 hx
        rcases Nat.lt_or_ge ((i + j) / 2) n with h5 | h5
        · have := List.pairwise_iff_getElem.1 hs ((i + j) / 2) n hm hl h5
          omega
        · have : n = (i + j) / 2 := by omega
          subst this
          omega
    · rw [if_neg h]
      have : i = j := by omega
      subst this
      exact ⟨hi, hj⟩
theorem has_sep {c : List Rg} (hs : Sep c) (r : Int) : hasF c r = true ↔ ∃ x ∈ c, inR r x := by
  have hh : c.Pairwise (fun a b => a.2.val < b.2.val) := by
    refine List.Pairwise.imp_of_mem (fun {a b} ha hb h => ?_) hs.1
    have := hs.2 b hb
    omega
  obtain ⟨h1, h2⟩ := bsG_spec c r hh c.length 0 c.length (by omega) (by omega) (by omega) (fun n x h => absurd h (by omega)) (fun n x h hx => by
    obtain ⟨hl, _⟩ := List.getElem?_eq_some_iff.1 hx; omega)
  rw [hasF]
  constructor
  · intro h
    cases hx : c[bsF c r]? with
    | none => rw [hx] at h; cases h
    | some x =>
      rw [hx] at h
      exact ⟨x, List.mem_of_getElem? hx, by simpa using h, h2 _ _ (Nat.le_refl _) hx⟩
  · rintro ⟨x, hx, e1, e2⟩
    obtain ⟨n, hl, rfl⟩ := List.getElem_of_mem hx
    have hg : c[n]? = some c[n] := List.getElem?_eq_getElem hl
    have hn : bsF c r ≤ n := Nat.le_of_not_lt fun h => by
      have := h1 n _ h hg
      omega
    have hb : bsF c r < c.length := by omega
    rw [List.getElem?_eq_getElem hb]
    have h3 := h2 _ _ (Nat.le_refl _) (List.getElem?_eq_getElem hb)
    simp only [decide_eq_true_eq]
    rcases Nat.lt_or_ge (bsF c r) n with h5 | h5
    · have := List.pairwise_iff_getElem.1 hs.1 (bsF c r) n hb hl h5
      have h6 := hs.2 _ (List.getElem_mem hb)
      omega
    · have : n = bsF c r := by omega
      subst this
      exact e1
end Go.Proofs.YtijdnjngfkohfaaGreatDoor

namespace Go.Proofs.YtijdnjngfkohfaaGreatDoor
open Go Go.Abs
def belN (n : Int) : Bool := decide (n < 9223372036854775808)
def belT (l : List TTxt) : Bool := l.all fun x => belN x.cat
def belR (l : List TRow) : Bool := l.all fun x => belN x.mag && belT x.texts
def belC (c : TCur) : Bool := belT c.names && (belN c.digits && (belN c.inc && (belN c.cashDigits && belN c.cashInc)))
def TTab.below (t : TTab) : Bool := belN t.minGroup && (belR t.short && (belR t.long && (belR t.mshort && (belT t.munit && (t.curs.all belC && t.units.all fun u => belT u.texts)))))
end Go.Proofs.YtijdnjngfkohfaaGreatDoor
