/- Whether something holds of all of some things, by their places. -/
import Derived.Test.YtpbjjhpihhnomaaGreatDoorJ16
import Derived.Test.YtpbjjhpihhnomaaGreatDoorJ18
set_option linter.unusedVariables false
set_option linter.unusedSimpArgs false
set_option maxRecDepth 100000
set_option maxHeartbeats 4000000

namespace Go.Proofs.YtpbjjhpihhnomaaGreatDoor
open Go Go.Abs
attribute [local irreducible] DrawW CallW RetW AC Does CmpW
structure TTxt where
  cat : Int
  text : List UInt8
structure TRow where
  mag : Int
  texts : List TTxt
structure TCur where
  code : List UInt8
  symbol : List UInt8
  narrow : List UInt8
  names : List TTxt
  digits : Int
  inc : Int
  cashDigits : Int
  cashInc : Int
structure TUnt where
  name : List UInt8
  texts : List TTxt
structure TSpc where
  cur : List UInt8
  num : List UInt8
  ins : List UInt8
structure TDig where
  d0 : List UInt8
  d1 : List UInt8
  d2 : List UInt8
  d3 : List UInt8
  d4 : List UInt8
  d5 : List UInt8
  d6 : List UInt8
  d7 : List UInt8
  d8 : List UInt8
  d9 : List UInt8
structure TTab where
  dg : TDig
  minus : List UInt8
  plus : List UInt8
  percent : List UInt8
  permille : List UInt8
  point : List UInt8
  comma : List UInt8
  minGroup : Int
  decimal : List UInt8
  per : List UInt8
  money : List UInt8
  account : List UInt8
  rules : List UInt8
  short : List TRow
  long : List TRow
  mshort : List TRow
  curs : List TCur
  units : List TUnt
  munit : List TTxt
  before : TSpc
  after : TSpc
def TDig.list (d : TDig) : List (List UInt8) := [d.d0, d.d1, d.d2, d.d3, d.d4, d.d5, d.d6, d.d7, d.d8, d.d9]
def TDig.cells (d : TDig) : List AV := [.str d.d0, .str d.d1, .str d.d2, .str d.d3, .str d.d4, .str d.d5, .str d.d6, .str d.d7, .str d.d8, .str d.d9]
def encT (t : TTxt) : List AV := [.int .i64 t.cat, .str t.text]
def txtL (l : List TTxt) : AV := .fsl (l.map encT)
def encR (r : TRow) : List AV := [.int .i64 r.mag, txtL r.texts]
def rowL (l : List TRow) : AV := .fsl (l.map encR)
def encCu (c : TCur) : List AV := [.str c.code, .str c.symbol, .str c.narrow, txtL c.names, .int .i64 c.digits, .int .i64 c.inc, .int .i64 c.cashDigits, .int .i64 c.cashInc]
def curL (l : List TCur) : AV := .fsl (l.map encCu)
def encU (u : TUnt) : List AV := [.str u.name, txtL u.texts]
def untL (l : List TUnt) : AV := .fsl (l.map encU)
def TSpc.cells (x : TSpc) : List AV := [.str x.cur, .str x.num, .str x.ins]
def tabC (t : TTab) : List AV := [.str t.dg.d0, .str t.dg.d1, .str t.dg.d2, .str t.dg.d3, .str t.dg.d4, .str t.dg.d5, .str t.dg.d6, .str t.dg.d7, .str t.dg.d8, .str t.dg.d9, .str t.minus, .str t.plus, .str t.percent, .str t.permille, .str t.point, .str t.comma,
  .int .i64 t.minGroup, .str t.decimal, .str t.per, .str t.money, .str t.account, .str t.rules, rowL t.short, rowL t.long, rowL t.mshort, curL t.curs, untL t.units, txtL t.munit, .str t.before.cur, .str t.before.num, .str t.before.ins, .str t.after.cur, .str t.after.num, .str t.after.ins]
theorem encT_two (l : List TTxt) : ∀ y ∈ l.map encT, y.length = 2 := fun y hy => by obtain ⟨z, _, rfl⟩ := List.mem_map.1 hy; rfl
theorem encR_two (l : List TRow) : ∀ y ∈ l.map encR, y.length = 2 := fun y hy => by obtain ⟨z, _, rfl⟩ := List.mem_map.1 hy; rfl
theorem encU_two (l : List TUnt) : ∀ y ∈ l.map encU, y.length = 2 := fun y hy => by obtain ⟨z, _, rfl⟩ := List.mem_map.1 hy; rfl
theorem encCu_eight (l : List TCur) : ∀ y ∈ l.map encCu, y.length = 8 := fun y hy => by obtain ⟨z, _, rfl⟩ := List.mem_map.1 hy; rfl
theorem map_get {α : Type} {f : α → List AV} {l : List α} {i : Nat} {x : α} (h : l[i]? = some x) : (l.map f)[i]? = some (f x) := by simp [h]
def nameF (s : List UInt8) : Bool := decide (s ≠ [] ∧ s.length ≤ 60) && rightF s
def maybeF (s : List UInt8) : Bool := decide (s = []) || nameF s
def inF (n lo hi : Int) : Bool := decide (lo ≤ n ∧ n ≤ hi)
def upB (c : UInt8) : Bool := decide (65 ≤ c.toNat ∧ c.toNat ≤ 90)
def codeF (s : List UInt8) : Bool := s.all upB && decide (s.length = 3)
def pointF (d : TDig) (s : List UInt8) : Bool := oneF s && (sonF d.list s).isNone
theorem vname_does (m : Int) (s : List UInt8) (hs : s.length < 4294967296) : Does Tryz.prog (GL m) 98 [.str s] [] fun ae _ => ae = .ret (.bool (nameF s)) := by
  refine Does.body tab Tryz.func98 rfl rfl ?_
  refine gos ?_
  by_cases h0 : s = []
  · refine CmpW.f (by simpa using h0) ?_
    refine gos ?_
    refine RetW.plain (by simp) ?_
    simp [nameF, h0]
  refine CmpW.t (by simpa using h0) ?_
  refine gos ?_
  by_cases h1 : s.length ≤ 60
  · refine CmpW.T ?_
    refine gos ?_
    refine CallW.pure (Right_does m s hs) rfl rfl ?_
    refine gos ?_
    refine RetW.plain (by simp) ?_
    simp [nameF, h0, h1]
  · refine CmpW.N ?_
    refine gos ?_
    refine RetW.plain (by simp) ?_
    simp [nameF, h1]
theorem maybe_does (m : Int) (s : List UInt8) (hs : s.length < 4294967296) : Does Tryz.prog (GL m) 183 [.str s] [] fun ae _ => ae = .ret (.bool (maybeF s)) := by
  refine Does.body tab Tryz.func183 rfl rfl ?_
  refine gos ?_
  by_cases h0 : s = []
  · refine CmpW.t (by simpa using h0) ?_
    refine gos ?_
    refine RetW.plain (by simp) ?_
    simp [maybeF, h0]
  refine CmpW.f (by simpa using h0) ?_
  refine gos ?_
  refine CallW.pure (vname_does m s hs) rfl rfl ?_
  refine gos ?_
  refine RetW.plain (by simp) ?_
  simp [maybeF, h0]
theorem vin_does {G : Globs} (n lo hi : Int) : Does Tryz.prog G 102 [.int .i64 n, .int .i64 lo, .int .i64 hi] [] fun ae _ => ae = .ret (.bool (inF n lo hi)) := by
  refine Does.body tab Tryz.func102 rfl rfl ?_
  refine gos ?_
  by_cases h0 : lo ≤ n
  · refine CmpW.T ?_
    refine gos ?_
    refine CmpW.s ?_
    refine gos ?_
    refine RetW.plain (by simp) ?_
    simp [inF, h0]
  · refine CmpW.N ?_
    refine gos ?_
    refine RetW.plain (by simp) ?_
    simp [inF, h0]
theorem code_does {G : Globs} (s : List UInt8) (hs : s.length < 4294967296) : Does Tryz.prog G 182 [.str s] [] fun ae _ => ae = .ret (.bool (codeF s)) := by
  refine Does.bodyA tab Tryz.func182 rfl rfl ?_
  refine AC.step tab ?_
  refine gos ?_
  refine AC.cutF tab (fun e h => s.all upB = true ∧ e = [.str s] ++ List.replicate 22 .any ∧ h = []) ?_ ?_
  · refine gos ?_
    refine AC.loopC tab (fun f e h => ∃ i : Nat, f + i = s.length + 1 ∧ i ≤ s.length ∧ s.all upB = (s.drop i).all upB ∧ e = [.str s, .any, .any, .any, .any, .int .i64 s.length, .int .i64 i] ++ List.replicate 16 .any ∧ h = []) (s.length + 1) ⟨_, fgts, 0, by omega, by omega, rfl, rfl, rfl⟩ ?_
    rintro f e h ⟨i, hf, hi, hF, rfl, rfl⟩
    refine gos ?_
    by_cases hlt : i < s.length
    · obtain ⟨c, hc⟩ : ∃ c, s[i]? = some c := ⟨_, List.getElem?_eq_getElem hlt⟩
      rw [drop_cons' hc, List.all_cons] at hF
      refine CmpW.T ?_
      refine gos ?_
      refine And.intro (by omega) ⟨c, hc, ?_⟩
      refine gos ?_
      by_cases h1 : c.toNat < 65
      · refine CmpW.T ?_
        refine gos ?_
        refine RetW.plain (by simp) ?_
        rw [codeF, hF, show upB c = false by simp [upB]; omega]; rfl
      refine CmpW.N ?_
      refine gos ?_
      refine And.intro (by omega) ⟨c, hc, ?_⟩
      refine gos ?_
      by_cases h2 : 90 < c.toNat
      · refine CmpW.T ?_
        refine gos ?_
        refine RetW.plain (by simp) ?_
        rw [codeF, hF, show upB c = false by simp [upB]; omega]; rfl
      refine CmpW.N ?_
      refine gos ?_
      exact ⟨f - 1, _, 0, by omega, fgts, i + 1, by omega, by omega, by rw [hF, show upB c = true by simp [upB]; omega]; rfl, rfl, rfl⟩
    · refine CmpW.N ?_
      rw [List.drop_of_length_le (by omega)] at hF
      refine gos ?_
      exact ⟨_, 0, fgts, hF, rfl, rfl⟩
  rintro e h ⟨hF, rfl, rfl⟩
  refine AC.go tab ?_
  refine gos ?_
  refine CmpW.s ?_
  refine gos ?_
  refine RetW.plain (by simp) ?_
  simp only [codeF, hF, Bool.true_and]
  congr 1
  congr 1
  rw [Bool.eq_iff_iff]; simp; omega
theorem point_does (m : Int) (t : TTab) (s : List UInt8) (hs : s.length < 4294967296) : Does Tryz.prog (GL m) 100 [.agg (tabC t), .str s] [] fun ae _ => ae = .ret (.bool (pointF t.dg s)) := by
  refine Does.bodyA tab Tryz.func100 rfl rfl ?_
  refine AC.step tab ?_
  refine gos ?_
  intro v1
  refine gos ?_
  refine AC.step tab ?_
  refine gos ?_
  refine CallW.pure (GOne_does m s hs) rfl rfl ?_
  cases h1 : oneF s with
  | false =>
    refine gos ?_
    refine RetW.plain (by simp) ?_
    simp [pointF, h1]
  | true =>
  refine gos ?_
  refine AC.step tab ?_
  refine gos ?_
  have dO := SetOne_does (GL m) t.dg.d0 t.dg.d1 t.dg.d2 t.dg.d3 t.dg.d4 t.dg.d5 t.dg.d6 t.dg.d7 t.dg.d8 t.dg.d9 s
  cases h2 : sonF [t.dg.d0, t.dg.d1, t.dg.d2, t.dg.d3, t.dg.d4, t.dg.d5, t.dg.d6, t.dg.d7, t.dg.d8, t.dg.d9] s with
  | none =>
    rw [h2] at dO
    refine CallW.pure dO rfl rfl ?_
    refine gos ?_
    refine AC.go tab ?_
    refine gos ?_
    refine RetW.plain (by simp) ?_
    simp [pointF, h1, TDig.list, h2]
  | some q =>
    obtain ⟨d, n⟩ := q
    rw [h2] at dO
    refine CallW.pure dO rfl rfl ?_
    refine gos ?_
    refine AC.go tab ?_
    refine gos ?_
    refine RetW.plain (by simp) ?_
    simp [pointF, h1, TDig.list, h2]
end Go.Proofs.YtpbjjhpihhnomaaGreatDoor

namespace Go.Abs
open Go
section
variable {P : Program} {G : Globs} {f : FuncId} {s : AHeap} {K KP : AV → AHeap → Prop}
theorem CallW.fst {av : List AV} {Q : AEnd → AHeap → Prop} (n : Nat) (hn : n ≤ s.length) (h : Does P G f av (s.take n) Q) (hin : insideL n av = true) (hs : insideO n (s.take n) = true)
    (k : ∀ ae s', Q ae s' → s'.length = n → match ae with
      | .ret r => inside n r = true ∧ insideO n s' = true ∧ K r (s' ++ s.drop n)
      | .panic v => inside n v = true ∧ insideO n s' = true ∧ KP v (s' ++ s.drop n)) : CallW P G f av s K KP := by
  have hput : ∀ s' : AHeap, s'.length = n → insideO n s' = true → putR (List.range n) s (List.range n) s' = s' ++ s.drop n := by
    intro s' hl hi
    apply List.ext_getElem?
    intro i
    have hg := putR_get (List.range n) (List.range n) s' s List.nodup_range (by simp [hl]) (fun j hj => Nat.lt_of_lt_of_le (List.mem_range.1 hj) hn) i
    by_cases hlt : i < n
    · rw [hg.1 i (List.getElem?_range hlt), List.getElem?_append_left (by omega)]
      cases hx : s'[i]? with
      | none => simp
      | some o =>
        cases o with
        | none => simp
        | some o => simp [renO_id (insideO_mem hi o (List.mem_of_getElem? hx))]
    · rw [hg.2 (by simpa using hlt), List.getElem?_append_right (by omega), List.getElem?_drop, hl, show n + (i - n) = i by omega]
  refine ⟨List.range n, s.take n, av, ⟨List.nodup_range, by simp; omega, fun j hj => Nat.lt_of_lt_of_le (List.mem_range.1 hj) hn, fun k j hk => ?_, fun o ho => ?_⟩, by simpa using hin, (renL_id _ _ hin).symm, ?_⟩
  · have hk2 : k < n := by
      have := (List.getElem?_eq_some_iff.1 hk).1; simpa using this
    rw [List.getElem?_range hk2] at hk
    simp only [Option.some.injEq] at hk
    subst hk
    rw [List.getElem?_take_of_lt hk2]
    cases hx : s[k]? with
    | none => simp
    | some o =>
      cases o with
      | none => simp
      | some o => simp [renO_id (insideO_mem hs o (List.mem_of_getElem? (by rw [List.getElem?_take_of_lt hk2]; exact hx)))]
  · simpa using insideO_mem hs o ho
  · intro C cargs hg hs1 hr
    refine CallsF.mono ?_ (h C cargs hg hs1 hr)
    rintro e w ⟨ae, C', h1, h2, h3, h4, h5, h6⟩
    refine ⟨ae, C', h1, h2, h3, h4, ?_, h6⟩
    have h4' : C'.s.length = n := by rw [h4]; simp; omega
    have := k ae _ h5 h4'
    cases ae with
    | ret r =>
      obtain ⟨k1, k2, k3⟩ := this
      simp only [ren_id _ _ k1, hput _ h4' k2]
      exact k3
    | panic v =>
      obtain ⟨k1, k2, k3⟩ := this
      simp only [ren_id _ _ k1, hput _ h4' k2]
      exact k3
end
end Go.Abs
namespace Go.Proofs.YtpbjjhpihhnomaaGreatDoor
open Go Go.Abs
attribute [local irreducible] DrawW CallW RetW AC Does CmpW
variable {G : Globs}
def allB (p : Nat → Bool) (n : Nat) : Bool := (List.range n).all p
theorem allB_t {p : Nat → Bool} {n : Nat} (h : ∀ j, j < n → p j = true) : allB p n = true := by
  unfold allB; rw [List.all_eq_true]; intro j hj; exact h j (by simpa using hj)
theorem allB_f {p : Nat → Bool} {n j : Nat} (hj : j < n) (h : p j = false) : allB p n = false := by
  unfold allB; rw [List.all_eq_false]; exact ⟨j, by simpa using hj, by simp [h]⟩
theorem lt_step {p : Nat → Bool} {i : Nat} (h : ∀ j, j < i → p j = true) (hi : p i = true) : ∀ j, j < i + 1 → p j = true := fun j hj => by
  by_cases e : j = i
  · rw [e]; exact hi
  · exact h j (by omega)
theorem cl2 {k : IntKind} {n : Int} {x : AV} {cap : List AV} (hx : closed x = true) (hc : closedL cap = true) : closedL ([] ++ [.int k n, x] ++ cap) = true := by
  simp [closedL, closed, hx, hc]
theorem evT_does (l : List TTxt) (p : Nat → Bool) (fid : FuncId) (cap : List AV) (hcap : closedL cap = true) (hl : l.length < 100000)
    (hcall : ∀ i x, l[i]? = some x → Does Tryz.prog G fid ([] ++ [.int .i64 (i : Nat), .agg (encT x)] ++ cap) [] fun ae _ => ae = .ret (.bool (p i))) :
    Does Tryz.prog G 184 [.fsl (l.map encT), .func (.func fid) [] cap] [] fun ae _ => ae = .ret (.bool (allB p l.length)) := by
  refine Does.bodyA tab Tryz.func184 rfl rfl ?_
  refine AC.step tab ?_
  refine gos ?_
  refine AC.cutF tab (fun e h => allB p l.length = true ∧ e = List.replicate 20 .any ∧ h = []) ?_ ?_
  · refine gos ?_
    rw [show (l.map encT).length = l.length by simp]
    refine AC.loopC tab (fun f e h => ∃ i : Nat, f + i = l.length + 1 ∧ i ≤ l.length ∧ (∀ j, j < i → p j = true) ∧ e = [.any, .func (.func fid) [] cap, .any, .any, .any, .any, .any, .fsl (l.map encT), .int .i64 l.length, .int .i64 i] ++ List.replicate 10 .any ∧ h = [])
      (l.length + 1) ⟨_, fgts, 0, by omega, by omega, fun j hj => by omega, rfl, rfl⟩ ?_
    rintro f e h ⟨i, hf, hi, hp, rfl, rfl⟩
    refine gos ?_
    by_cases hlt : i < l.length
    · obtain ⟨x, hx⟩ : ∃ x, l[i]? = some x := ⟨_, List.getElem?_eq_getElem hlt⟩
      refine CmpW.T ?_
      refine gos ?_
      refine And.intro (encT_two l) (And.intro (by omega) ⟨encT x, map_get hx, ?_⟩)
      (repeat (first | refine gof ?_ | refine fun (vv : Nat) => ?_))
      refine CallW.pure (hcall i x hx) (cl2 rfl hcap) rfl ?_
      cases hpi : p i with
      | true =>
        refine gos ?_
        exact ⟨f - 1, _, 0, by omega, fgts, i + 1, by omega, by omega, lt_step hp hpi, rfl, rfl⟩
      | false =>
        refine gos ?_
        refine RetW.plain (by simp) ?_
        rw [allB_f hlt hpi]
    · refine CmpW.N ?_
      refine gos ?_
      exact ⟨_, 0, fgts, allB_t fun j hj => hp j (by omega), rfl, rfl⟩
  rintro e h ⟨hA, rfl, rfl⟩
  rw [hA]
  refine AC.go tab ?_
  refine gos ?_
  refine RetW.plain (by simp) ?_
  rfl
theorem evC_does (l : List TCur) (p : Nat → Bool) (fid : FuncId) (cap : List AV) (hcap : closedL cap = true) (hl : l.length < 100000)
    (hcall : ∀ i x, l[i]? = some x → Does Tryz.prog G fid ([] ++ [.int .i64 (i : Nat), .agg (encCu x)] ++ cap) [] fun ae _ => ae = .ret (.bool (p i))) :
    Does Tryz.prog G 109 [.fsl (l.map encCu), .func (.func fid) [] cap] [] fun ae _ => ae = .ret (.bool (allB p l.length)) := by
  refine Does.bodyA tab Tryz.func109 rfl rfl ?_
  refine AC.step tab ?_
  refine gos ?_
  refine AC.cutF tab (fun e h => allB p l.length = true ∧ e = List.replicate 20 .any ∧ h = []) ?_ ?_
  · refine gos ?_
    rw [show (l.map encCu).length = l.length by simp]
    refine AC.loopC tab (fun f e h => ∃ i : Nat, f + i = l.length + 1 ∧ i ≤ l.length ∧ (∀ j, j < i → p j = true) ∧ e = [.any, .func (.func fid) [] cap, .any, .any, .any, .any, .any, .fsl (l.map encCu), .int .i64 l.length, .int .i64 i] ++ List.replicate 10 .any ∧ h = [])
      (l.length + 1) ⟨_, fgts, 0, by omega, by omega, fun j hj => by omega, rfl, rfl⟩ ?_
    rintro f e h ⟨i, hf, hi, hp, rfl, rfl⟩
    refine gos ?_
    by_cases hlt : i < l.length
    · obtain ⟨x, hx⟩ : ∃ x, l[i]? = some x := ⟨_, List.getElem?_eq_getElem hlt⟩
      refine CmpW.T ?_
      refine gos ?_
      refine And.intro (encCu_eight l) (And.intro (by omega) ⟨encCu x, map_get hx, ?_⟩)
      (repeat (first | refine gof ?_ | refine fun (vv : Nat) => ?_))
      refine CallW.pure (hcall i x hx) (cl2 rfl hcap) rfl ?_
      cases hpi : p i with
      | true =>
        refine gos ?_
        exact ⟨f - 1, _, 0, by omega, fgts, i + 1, by omega, by omega, lt_step hp hpi, rfl, rfl⟩
      | false =>
        refine gos ?_
        refine RetW.plain (by simp) ?_
        rw [allB_f hlt hpi]
    · refine CmpW.N ?_
      refine gos ?_
      exact ⟨_, 0, fgts, allB_t fun j hj => hp j (by omega), rfl, rfl⟩
  rintro e h ⟨hA, rfl, rfl⟩
  rw [hA]
  refine AC.go tab ?_
  refine gos ?_
  refine RetW.plain (by simp) ?_
  rfl
theorem evU_does (l : List TUnt) (p : Nat → Bool) (fid : FuncId) (cap : List AV) (hcap : closedL cap = true) (hl : l.length < 100000)
    (hcall : ∀ i x, l[i]? = some x → Does Tryz.prog G fid ([] ++ [.int .i64 (i : Nat), .agg (encU x)] ++ cap) [] fun ae _ => ae = .ret (.bool (p i))) :
    Does Tryz.prog G 113 [.fsl (l.map encU), .func (.func fid) [] cap] [] fun ae _ => ae = .ret (.bool (allB p l.length)) := by
  refine Does.bodyA tab Tryz.func113 rfl rfl ?_
  refine AC.step tab ?_
  refine gos ?_
  refine AC.cutF tab (fun e h => allB p l.length = true ∧ e = List.replicate 20 .any ∧ h = []) ?_ ?_
  · refine gos ?_
    rw [show (l.map encU).length = l.length by simp]
    refine AC.loopC tab (fun f e h => ∃ i : Nat, f + i = l.length + 1 ∧ i ≤ l.length ∧ (∀ j, j < i → p j = true) ∧ e = [.any, .func (.func fid) [] cap, .any, .any, .any, .any, .any, .fsl (l.map encU), .int .i64 l.length, .int .i64 i] ++ List.replicate 10 .any ∧ h = [])
      (l.length + 1) ⟨_, fgts, 0, by omega, by omega, fun j hj => by omega, rfl, rfl⟩ ?_
    rintro f e h ⟨i, hf, hi, hp, rfl, rfl⟩
    refine gos ?_
    by_cases hlt : i < l.length
    · obtain ⟨x, hx⟩ : ∃ x, l[i]? = some x := ⟨_, List.getElem?_eq_getElem hlt⟩
      refine CmpW.T ?_
      refine gos ?_
      refine And.intro (encU_two l) (And.intro (by omega) ⟨encU x, map_get hx, ?_⟩)
      (repeat (first | refine gof ?_ | refine fun (vv : Nat) => ?_))
      refine CallW.pure (hcall i x hx) (cl2 rfl hcap) rfl ?_
      cases hpi : p i with
      | true =>
        refine gos ?_
        exact ⟨f - 1, _, 0, by omega, fgts, i + 1, by omega, by omega, lt_step hp hpi, rfl, rfl⟩
      | false =>
        refine gos ?_
        refine RetW.plain (by simp) ?_
        rw [allB_f hlt hpi]
    · refine CmpW.N ?_
      refine gos ?_
      exact ⟨_, 0, fgts, allB_t fun j hj => hp j (by omega), rfl, rfl⟩
  rintro e h ⟨hA, rfl, rfl⟩
  rw [hA]
  refine AC.go tab ?_
  refine gos ?_
  refine RetW.plain (by simp) ?_
  rfl
theorem evR_does (l : List TRow) (p : Nat → Bool) (A : Nat → AObj) (fid : FuncId) (cs ds : List AV) (ver : Nat) (hl : l.length < 100000) (hA : ∀ i, closedLL (A i).es = true)
    (hcall : ∀ i x, l[i]? = some x → (∀ j, j < i → p j = true) → Does Tryz.prog G fid ([] ++ [.int .i64 (i : Nat), .agg (encR x)] ++ [.fptr cs, .ptr 0 ver 0 0, .fptr ds]) [some (A i)] fun ae O => ae = .ret (.bool (p i)) ∧ ∃ o, O = [some o] ∧ closedLL o.es = true ∧ (p i = true → o = A (i + 1))) :
    Does Tryz.prog G 179 [.fsl (l.map encR), .func (.func fid) [] [.fptr cs, .ptr 0 ver 0 0, .fptr ds]] [some (A 0)] fun ae O => ae = .ret (.bool (allB p l.length)) ∧ ∃ o, O = [some o] ∧ closedLL o.es = true := by
  refine Does.bodyA tab Tryz.func179 rfl rfl ?_
  refine AC.step tab ?_
  refine gos ?_
  refine AC.cutF tab (fun e h => allB p l.length = true ∧ e = List.replicate 20 .any ∧ h = [some (A l.length)]) ?_ ?_
  · refine gos ?_
    rw [show (l.map encR).length = l.length by simp]
    refine AC.loopC tab (fun f e h => ∃ i : Nat, f + i = l.length + 1 ∧ i ≤ l.length ∧ (∀ j, j < i → p j = true) ∧ e = [.any, .func (.func fid) [] [.fptr cs, .ptr 0 ver 0 0, .fptr ds], .any, .any, .any, .any, .any, .fsl (l.map encR), .int .i64 l.length, .int .i64 i] ++ List.replicate 10 .any ∧ h = [some (A i)])
      (l.length + 1) ⟨_, fgts, 0, by omega, by omega, fun j hj => by omega, rfl, rfl⟩ ?_
    rintro f e h ⟨i, hf, hi, hp, rfl, rfl⟩
    refine gos ?_
    by_cases hlt : i < l.length
    · obtain ⟨x, hx⟩ : ∃ x, l[i]? = some x := ⟨_, List.getElem?_eq_getElem hlt⟩
      refine CmpW.T ?_
      refine gos ?_
      refine And.intro (encR_two l) (And.intro (by omega) ⟨encR x, map_get hx, ?_⟩)
      (repeat (first | refine gof ?_ | refine fun (vv : Nat) => ?_))
      refine CallW.fst 1 (by simp) (hcall i x hx hp) rfl (by simp [insideO, insideLL_closed 1 _ (hA i)]) ?_
      rintro ae O ⟨rfl, o, rfl, ho, hoA⟩ _
      refine ⟨rfl, by simp [insideO, insideLL_closed 1 _ ho], ?_⟩
      cases hpi : p i with
      | true =>
        rw [hoA hpi]
        refine gos ?_
        exact ⟨f - 1, _, 1, by omega, fgts, i + 1, by omega, by omega, lt_step hp hpi, rfl, rfl⟩
      | false =>
        refine gos ?_
        refine RetW.plain (by simp) ?_
        exact ⟨by rw [allB_f hlt hpi], o, rfl, ho⟩
    · refine CmpW.N ?_
      refine gos ?_
      have : i = l.length := by omega
      subst this
      exact ⟨_, 1, fgts, allB_t hp, rfl, rfl⟩
  rintro e h ⟨hB, rfl, rfl⟩
  rw [hB]
  refine AC.go tab ?_
  refine gos ?_
  refine RetW.plain (by simp) ?_
  exact ⟨rfl, _, rfl, hA _⟩
theorem evS_does (l : List TTxt) (p : Nat → Bool) (A : Nat → AObj) (fid : FuncId) (vl vo : Nat) (L B : AObj) (hL : insideLL 3 L.es = true) (hB : insideLL 3 B.es = true) (hl : l.length < 100000) (hA : ∀ i, insideLL 3 (A i).es = true)
    (hcall : ∀ i x, l[i]? = some x → (∀ j, j < i → p j = true) → Does Tryz.prog G fid ([] ++ [.int .i64 (i : Nat), .agg (encT x)] ++ [.ptr 1 vl 0 0, .ptr 2 vo 0 0]) [some (A i), some L, some B] fun ae O => ae = .ret (.bool (p i)) ∧ O = [some (A (i + 1)), some L, some B]) :
    Does Tryz.prog G 184 [.fsl (l.map encT), .func (.func fid) [] [.ptr 1 vl 0 0, .ptr 2 vo 0 0]] [some (A 0), some L, some B] fun ae O => ae = .ret (.bool (allB p l.length)) ∧ ∃ k, k ≤ l.length ∧ O = [some (A k), some L, some B] ∧ (allB p l.length = true → k = l.length) := by
  refine Does.bodyA tab Tryz.func184 rfl rfl ?_
  refine AC.step tab ?_
  refine gos ?_
  refine AC.cutF tab (fun e h => allB p l.length = true ∧ e = List.replicate 20 .any ∧ h = [some (A l.length), some L, some B]) ?_ ?_
  · refine gos ?_
    rw [show (l.map encT).length = l.length by simp]
    refine AC.loopC tab (fun f e h => ∃ i : Nat, f + i = l.length + 1 ∧ i ≤ l.length ∧ (∀ j, j < i → p j = true) ∧ e = [.any, .func (.func fid) [] [.ptr 1 vl 0 0, .ptr 2 vo 0 0], .any, .any, .any, .any, .any, .fsl (l.map encT), .int .i64 l.length, .int .i64 i] ++ List.replicate 10 .any ∧ h = [some (A i), some L, some B])
      (l.length + 1) ⟨_, fgts, 0, by omega, by omega, fun j hj => by omega, rfl, rfl⟩ ?_
    rintro f e h ⟨i, hf, hi, hp, rfl, rfl⟩
    refine gos ?_
    by_cases hlt : i < l.length
    · obtain ⟨x, hx⟩ : ∃ x, l[i]? = some x := ⟨_, List.getElem?_eq_getElem hlt⟩
      refine CmpW.T ?_
      refine gos ?_
      refine And.intro (encT_two l) (And.intro (by omega) ⟨encT x, map_get hx, ?_⟩)
      (repeat (first | refine gof ?_ | refine fun (vv : Nat) => ?_))
      refine CallW.fst 3 (by simp) (hcall i x hx hp) rfl (by simp [insideO, hA, hL, hB]) ?_
      rintro ae O ⟨rfl, rfl⟩ _
      refine ⟨rfl, by simp [insideO, hA, hL, hB], ?_⟩
      cases hpi : p i with
      | true =>
        refine gos ?_
        exact ⟨f - 1, _, 3, by omega, fgts, i + 1, by omega, by omega, lt_step hp hpi, rfl, rfl⟩
      | false =>
        refine gos ?_
        refine RetW.plain (by simp) ?_
        exact ⟨by rw [allB_f hlt hpi], i + 1, by omega, rfl, fun h => by rw [allB_f hlt hpi] at h; cases h⟩
    · refine CmpW.N ?_
      refine gos ?_
      have : i = l.length := by omega
      subst this
      exact ⟨_, 3, fgts, allB_t hp, rfl, rfl⟩
  rintro e h ⟨hB, rfl, rfl⟩
  rw [hB]
  refine AC.go tab ?_
  refine gos ?_
  refine RetW.plain (by simp) ?_
  exact ⟨rfl, l.length, Nat.le_refl _, rfl, fun _ => rfl⟩
end Go.Proofs.YtpbjjhpihhnomaaGreatDoor
