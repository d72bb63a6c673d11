/- Texts with places. -/
import Derived.Test.YtjjppmbojcgdgaaGreatDoorJ07
import Derived.Test.YtjjppmbojcgdgaaGreatDoorJ02
set_option linter.unusedVariables false
set_option linter.unusedSimpArgs false
set_option maxRecDepth 100000
set_option maxHeartbeats 4000000

namespace Go.Abs
open Go
section
variable {P : Program} {G : Globs} {f : FuncId} {s : AHeap} {K KP : AV → AHeap → Prop}
theorem CallW.fst {av : List AV} {Q : AEnd → AHeap → Prop} (n : Nat) (hn : n ≤ s.length) (h : Does P G f av (s.take n) Q) (hin : insideL n av = true) (hs : insideO n (s.take n) = true)
    (k : ∀ ae s', Q ae s' → s'.length = n → match ae with
      | .ret r => inside n r = true ∧ insideO n s' = true ∧ K r (s' ++ s.drop n)
      | .panic v => inside n v = true ∧ insideO n s' = true ∧ KP v (s' ++ s.drop n)) : CallW P G f av s K KP := by
  have hput : ∀ s' : AHeap, s'.length = n → insideO n s' = true → putR (List.range n) s (List.range n) s' = s' ++ s.drop n := by
    intro s' hl hi
    apply List.ext_getElem?
    intro i
    have hg := putR_get (List.range n) (List.range n) s' s List.nodup_range (by simp [hl]) (fun j hj => Nat.lt_of_lt_of_le (List.mem_range.1 hj) hn) i
    by_cases hlt : i < n
    · rw [hg.1 i (List.getElem?_range hlt), List.getElem?_append_left (by omega)]
      cases hx : s'[i]? with
      | none => simp
      | some o =>
        cases o with
        | none => simp
        | some o => simp [renO_id (insideO_mem hi o (List.mem_of_getElem? hx))]
    · rw [hg.2 (by simpa using hlt), List.getElem?_append_right (by omega), List.getElem?_drop, hl, show n + (i - n) = i by omega]
  refine ⟨List.range n, s.take n, av, ⟨List.nodup_range, by simp; omega, fun j hj => Nat.lt_of_lt_of_le (List.mem_range.1 hj) hn, fun k j hk => ?_, fun o ho => ?_⟩, by simpa using hin, (renL_id _ _ hin).symm, ?_⟩
  · have hk2 : k < n := by
      have := (List.getElem?_eq_some_iff.1 hk).1; simpa using this
    rw [List.getElem?_range hk2] at hk
    simp only [Option.some.injEq] at hk
    subst hk
    rw [List.getElem?_take_of_lt hk2]
    cases hx : s[k]? with
    | none => simp
    | some o =>
      cases o with
      | none => simp
      | some o => simp [renO_id (insideO_mem hs o (List.mem_of_getElem? (by rw [List.getElem?_take_of_lt hk2]; exact hx)))]
  · simpa using insideO_mem hs o ho
  · intro C cargs hg hs1 hr
    refine CallsF.mono ?_ (h C cargs hg hs1 hr)
    rintro e w ⟨ae, C', h1, h2, h3, h4, h5, h6⟩
    refine ⟨ae, C', h1, h2, h3, h4, ?_, h6⟩
    have h4' : C'.s.length = n := by rw [h4]; simp; omega
    have := k ae _ h5 h4'
    cases ae with
    | ret r =>
      obtain ⟨k1, k2, k3⟩ := this
      simp only [ren_id _ _ k1, hput _ h4' k2]
      exact k3
    | panic v =>
      obtain ⟨k1, k2, k3⟩ := this
      simp only [ren_id _ _ k1, hput _ h4' k2]
      exact k3
end
end Go.Abs
namespace Go.Proofs.YtjjppmbojcgdgaaGreatDoor
open Go Go.Abs
attribute [local irreducible] DrawW CallW RetW AC Does CmpW
variable {G : Globs}
def allB (p : Nat → Bool) (n : Nat) : Bool := (List.range n).all p
theorem allB_t {p : Nat → Bool} {n : Nat} (h : ∀ j, j < n → p j = true) : allB p n = true := by
  unfold allB; rw [List.all_eq_true]; intro j hj; exact h j (by simpa using hj)
theorem allB_f {p : Nat → Bool} {n j : Nat} (hj : j < n) (h : p j = false) : allB p n = false := by
  unfold allB; rw [List.all_eq_false]; exact ⟨j, by simpa using hj, by simp [h]⟩
theorem allB_iff {p : Nat → Bool} {n : Nat} : allB p n = true ↔ ∀ j, j < n → p j = true := by
  unfold allB; rw [List.all_eq_true]
  exact ⟨fun h j hj => h j (by simpa using hj), fun h j hj => h j (by simpa using hj)⟩
theorem lt_step {p : Nat → Bool} {i : Nat} (h : ∀ j, j < i → p j = true) (hi : p i = true) : ∀ j, j < i + 1 → p j = true := fun j hj => by
  by_cases e : j = i
  · rw [e]; exact hi
  · exact h j (by omega)
theorem cl2 {k : IntKind} {n : Int} {x : AV} {cap : List AV} (hx : closed x = true) (hc : closedL cap = true) : closedL ([] ++ [.int k n, x] ++ cap) = true := by
  simp [closedL, closed, hx, hc]
theorem evT_does (l : List TTxt) (p : Nat → Bool) (fid : FuncId) (cap : List AV) (hcap : closedL cap = true) (hl : l.length < 100000)
    (hcall : ∀ i x, l[i]? = some x → Does Tryz.prog G fid ([] ++ [.int .i64 (i : Nat), .agg (encT x)] ++ cap) [] fun ae _ => ae = .ret (.bool (p i))) :
    Does Tryz.prog G 183 [.fsl (l.map encT), .func (.func fid) [] cap] [] fun ae _ => ae = .ret (.bool (allB p l.length)) := by
  refine Does.bodyA tab Tryz.func183 rfl rfl ?_
  refine AC.step tab ?_
  refine gos ?_
  refine AC.cutF tab (fun e h => allB p l.length = true ∧ e = List.replicate 20 .any ∧ h = []) ?_ ?_
  · refine gos ?_
    rw [show (l.map encT).length = l.length by simp]
    refine AC.loopC tab (fun f e h => ∃ i : Nat, f + i = l.length + 1 ∧ i ≤ l.length ∧ (∀ j, j < i → p j = true) ∧ e = [.any, .func (.func fid) [] cap, .any, .any, .any, .any, .any, .fsl (l.map encT), .int .i64 l.length, .int .i64 i] ++ List.replicate 10 .any ∧ h = [])
      (l.length + 1) ⟨_, fgts, 0, by omega, by omega, fun j hj => by omega, rfl, rfl⟩ ?_
    rintro f e h ⟨i, hf, hi, hp, rfl, rfl⟩
    refine gos ?_
    by_cases hlt : i < l.length
    · obtain ⟨x, hx⟩ : ∃ x, l[i]? = some x := ⟨_, List.getElem?_eq_getElem hlt⟩
      refine CmpW.T ?_
      refine gos ?_
      refine And.intro (encT_two l) (And.intro (by omega) ⟨encT x, map_get hx, ?_⟩)
      (repeat (first | refine gof ?_ | refine fun (vv : Nat) => ?_))
      refine CallW.pure (hcall i x hx) (cl2 rfl hcap) rfl ?_
      cases hpi : p i with
      | true =>
        refine gos ?_
        exact ⟨f - 1, _, 0, by omega, fgts, i + 1, by omega, by omega, lt_step hp hpi, rfl, rfl⟩
      | false =>
        refine gos ?_
        refine RetW.plain (by simp) ?_
        rw [allB_f hlt hpi]
    · refine CmpW.N ?_
      refine gos ?_
      exact ⟨_, 0, fgts, allB_t fun j hj => hp j (by omega), rfl, rfl⟩
  rintro e h ⟨hA, rfl, rfl⟩
  rw [hA]
  refine AC.go tab ?_
  refine gos ?_
  refine RetW.plain (by simp) ?_
  rfl
theorem evC_does (l : List TCur) (p : Nat → Bool) (fid : FuncId) (cap : List AV) (hcap : closedL cap = true) (hl : l.length < 100000)
    (hcall : ∀ i x, l[i]? = some x → Does Tryz.prog G fid ([] ++ [.int .i64 (i : Nat), .agg (encCu x)] ++ cap) [] fun ae _ => ae = .ret (.bool (p i))) :
    Does Tryz.prog G 94 [.fsl (l.map encCu), .func (.func fid) [] cap] [] fun ae _ => ae = .ret (.bool (allB p l.length)) := by
  refine Does.bodyA tab Tryz.func94 rfl rfl ?_
  refine AC.step tab ?_
  refine gos ?_
  refine AC.cutF tab (fun e h => allB p l.length = true ∧ e = List.replicate 20 .any ∧ h = []) ?_ ?_
  · refine gos ?_
    rw [show (l.map encCu).length = l.length by simp]
    refine AC.loopC tab (fun f e h => ∃ i : Nat, f + i = l.length + 1 ∧ i ≤ l.length ∧ (∀ j, j < i → p j = true) ∧ e = [.any, .func (.func fid) [] cap, .any, .any, .any, .any, .any, .fsl (l.map encCu), .int .i64 l.length, .int .i64 i] ++ List.replicate 10 .any ∧ h = [])
      (l.length + 1) ⟨_, fgts, 0, by omega, by omega, fun j hj => by omega, rfl, rfl⟩ ?_
    rintro f e h ⟨i, hf, hi, hp, rfl, rfl⟩
    refine gos ?_
    by_cases hlt : i < l.length
    · obtain ⟨x, hx⟩ : ∃ x, l[i]? = some x := ⟨_, List.getElem?_eq_getElem hlt⟩
      refine CmpW.T ?_
      refine gos ?_
      refine And.intro (encCu_eight l) (And.intro (by omega) ⟨encCu x, map_get hx, ?_⟩)
      (repeat (first | refine gof ?_ | refine fun (vv : Nat) => ?_))
      refine CallW.pure (hcall i x hx) (cl2 rfl hcap) rfl ?_
      cases hpi : p i with
      | true =>
        refine gos ?_
        exact ⟨f - 1, _, 0, by omega, fgts, i + 1, by omega, by omega, lt_step hp hpi, rfl, rfl⟩
      | false =>
        refine gos ?_
        refine RetW.plain (by simp) ?_
        rw [allB_f hlt hpi]
    · refine CmpW.N ?_
      refine gos ?_
      exact ⟨_, 0, fgts, allB_t fun j hj => hp j (by omega), rfl, rfl⟩
  rintro e h ⟨hA, rfl, rfl⟩
  rw [hA]
  refine AC.go tab ?_
  refine gos ?_
  refine RetW.plain (by simp) ?_
  rfl
theorem evU_does (l : List TUnt) (p : Nat → Bool) (fid : FuncId) (cap : List AV) (hcap : closedL cap = true) (hl : l.length < 100000)
    (hcall : ∀ i x, l[i]? = some x → Does Tryz.prog G fid ([] ++ [.int .i64 (i : Nat), .agg (encU x)] ++ cap) [] fun ae _ => ae = .ret (.bool (p i))) :
    Does Tryz.prog G 98 [.fsl (l.map encU), .func (.func fid) [] cap] [] fun ae _ => ae = .ret (.bool (allB p l.length)) := by
  refine Does.bodyA tab Tryz.func98 rfl rfl ?_
  refine AC.step tab ?_
  refine gos ?_
  refine AC.cutF tab (fun e h => allB p l.length = true ∧ e = List.replicate 20 .any ∧ h = []) ?_ ?_
  · refine gos ?_
    rw [show (l.map encU).length = l.length by simp]
    refine AC.loopC tab (fun f e h => ∃ i : Nat, f + i = l.length + 1 ∧ i ≤ l.length ∧ (∀ j, j < i → p j = true) ∧ e = [.any, .func (.func fid) [] cap, .any, .any, .any, .any, .any, .fsl (l.map encU), .int .i64 l.length, .int .i64 i] ++ List.replicate 10 .any ∧ h = [])
      (l.length + 1) ⟨_, fgts, 0, by omega, by omega, fun j hj => by omega, rfl, rfl⟩ ?_
    rintro f e h ⟨i, hf, hi, hp, rfl, rfl⟩
    refine gos ?_
    by_cases hlt : i < l.length
    · obtain ⟨x, hx⟩ : ∃ x, l[i]? = some x := ⟨_, List.getElem?_eq_getElem hlt⟩
      refine CmpW.T ?_
      refine gos ?_
      refine And.intro (encU_two l) (And.intro (by omega) ⟨encU x, map_get hx, ?_⟩)
      (repeat (first | refine gof ?_ | refine fun (vv : Nat) => ?_))
      refine CallW.pure (hcall i x hx) (cl2 rfl hcap) rfl ?_
      cases hpi : p i with
      | true =>
        refine gos ?_
        exact ⟨f - 1, _, 0, by omega, fgts, i + 1, by omega, by omega, lt_step hp hpi, rfl, rfl⟩
      | false =>
        refine gos ?_
        refine RetW.plain (by simp) ?_
        rw [allB_f hlt hpi]
    · refine CmpW.N ?_
      refine gos ?_
      exact ⟨_, 0, fgts, allB_t fun j hj => hp j (by omega), rfl, rfl⟩
  rintro e h ⟨hA, rfl, rfl⟩
  rw [hA]
  refine AC.go tab ?_
  refine gos ?_
  refine RetW.plain (by simp) ?_
  rfl
theorem evR_does (l : List TRow) (p : Nat → Bool) (A : Nat → AObj) (fid : FuncId) (cs ds : List AV) (ver : Nat) (hl : l.length < 100000) (hA : ∀ i, closedLL (A i).es = true)
    (hcall : ∀ i x, l[i]? = some x → (∀ j, j < i → p j = true) → Does Tryz.prog G fid ([] ++ [.int .i64 (i : Nat), .agg (encR x)] ++ [.fptr cs, .ptr 0 ver 0 0, .fptr ds]) [some (A i)] fun ae O => ae = .ret (.bool (p i)) ∧ ∃ o, O = [some o] ∧ closedLL o.es = true ∧ (p i = true → o = A (i + 1))) :
    Does Tryz.prog G 178 [.fsl (l.map encR), .func (.func fid) [] [.fptr cs, .ptr 0 ver 0 0, .fptr ds]] [some (A 0)] fun ae O => ae = .ret (.bool (allB p l.length)) ∧ ∃ o, O = [some o] ∧ closedLL o.es = true := by
  refine Does.bodyA tab Tryz.func178 rfl rfl ?_
  refine AC.step tab ?_
  refine gos ?_
  refine AC.cutF tab (fun e h => allB p l.length = true ∧ e = List.replicate 20 .any ∧ h = [some (A l.length)]) ?_ ?_
  · refine gos ?_
    rw [show (l.map encR).length = l.length by simp]
    refine AC.loopC tab (fun f e h => ∃ i : Nat, f + i = l.length + 1 ∧ i ≤ l.length ∧ (∀ j, j < i → p j = true) ∧ e = [.any, .func (.func fid) [] [.fptr cs, .ptr 0 ver 0 0, .fptr ds], .any, .any, .any, .any, .any, .fsl (l.map encR), .int .i64 l.length, .int .i64 i] ++ List.replicate 10 .any ∧ h = [some (A i)])
      (l.length + 1) ⟨_, fgts, 0, by omega, by omega, fun j hj => by omega, rfl, rfl⟩ ?_
    rintro f e h ⟨i, hf, hi, hp, rfl, rfl⟩
    refine gos ?_
    by_cases hlt : i < l.length
    · obtain ⟨x, hx⟩ : ∃ x, l[i]? = some x := ⟨_, List.getElem?_eq_getElem hlt⟩
      refine CmpW.T ?_
      refine gos ?_
      refine And.intro (encR_two l) (And.intro (by omega) ⟨encR x, map_get hx, ?_⟩)
      (repeat (first | refine gof ?_ | refine fun (vv : Nat) => ?_))
      refine CallW.fst 1 (by simp) (hcall i x hx hp) rfl (by simp [insideO, insideLL_closed 1 _ (hA i)]) ?_
      rintro ae O ⟨rfl, o, rfl, ho, hoA⟩ _
      refine ⟨rfl, by simp [insideO, insideLL_closed 1 _ ho], ?_⟩
      cases hpi : p i with
      | true =>
        rw [hoA hpi]
        refine gos ?_
        exact ⟨f - 1, _, 1, by omega, fgts, i + 1, by omega, by omega, lt_step hp hpi, rfl, rfl⟩
      | false =>
        refine gos ?_
        refine RetW.plain (by simp) ?_
        exact ⟨by rw [allB_f hlt hpi], o, rfl, ho⟩
    · refine CmpW.N ?_
      refine gos ?_
      have : i = l.length := by omega
      subst this
      exact ⟨_, 1, fgts, allB_t hp, rfl, rfl⟩
  rintro e h ⟨hB, rfl, rfl⟩
  rw [hB]
  refine AC.go tab ?_
  refine gos ?_
  refine RetW.plain (by simp) ?_
  exact ⟨rfl, _, rfl, hA _⟩
theorem evS_does (l : List TTxt) (p : Nat → Bool) (A : Nat → AObj) (fid : FuncId) (vl vo : Nat) (L B : AObj) (hL : insideLL 3 L.es = true) (hB : insideLL 3 B.es = true) (hl : l.length < 100000) (hA : ∀ i, insideLL 3 (A i).es = true)
    (hcall : ∀ i x, l[i]? = some x → (∀ j, j < i → p j = true) → Does Tryz.prog G fid ([] ++ [.int .i64 (i : Nat), .agg (encT x)] ++ [.ptr 1 vl 0 0, .ptr 2 vo 0 0]) [some (A i), some L, some B] fun ae O => ae = .ret (.bool (p i)) ∧ O = [some (A (i + 1)), some L, some B]) :
    Does Tryz.prog G 183 [.fsl (l.map encT), .func (.func fid) [] [.ptr 1 vl 0 0, .ptr 2 vo 0 0]] [some (A 0), some L, some B] fun ae O => ae = .ret (.bool (allB p l.length)) ∧ ∃ k, k ≤ l.length ∧ O = [some (A k), some L, some B] ∧ (allB p l.length = true → k = l.length) := by
  refine Does.bodyA tab Tryz.func183 rfl rfl ?_
  refine AC.step tab ?_
  refine gos ?_
  refine AC.cutF tab (fun e h => allB p l.length = true ∧ e = List.replicate 20 .any ∧ h = [some (A l.length), some L, some B]) ?_ ?_
  · refine gos ?_
    rw [show (l.map encT).length = l.length by simp]
    refine AC.loopC tab (fun f e h => ∃ i : Nat, f + i = l.length + 1 ∧ i ≤ l.length ∧ (∀ j, j < i → p j = true) ∧ e = [.any, .func (.func fid) [] [.ptr 1 vl 0 0, .ptr 2 vo 0 0], .any, .any, .any, .any, .any, .fsl (l.map encT), .int .i64 l.length, .int .i64 i] ++ List.replicate 10 .any ∧ h = [some (A i), some L, some B])
      (l.length + 1) ⟨_, fgts, 0, by omega, by omega, fun j hj => by omega, rfl, rfl⟩ ?_
    rintro f e h ⟨i, hf, hi, hp, rfl, rfl⟩
    refine gos ?_
    by_cases hlt : i < l.length
    · obtain ⟨x, hx⟩ : ∃ x, l[i]? = some x := ⟨_, List.getElem?_eq_getElem hlt⟩
      refine CmpW.T ?_
      refine gos ?_
      refine And.intro (encT_two l) (And.intro (by omega) ⟨encT x, map_get hx, ?_⟩)
      (repeat (first | refine gof ?_ | refine fun (vv : Nat) => ?_))
      refine CallW.fst 3 (by simp) (hcall i x hx hp) rfl (by simp [insideO, hA, hL, hB]) ?_
      rintro ae O ⟨rfl, rfl⟩ _
      refine ⟨rfl, by simp [insideO, hA, hL, hB], ?_⟩
      cases hpi : p i with
      | true =>
        refine gos ?_
        exact ⟨f - 1, _, 3, by omega, fgts, i + 1, by omega, by omega, lt_step hp hpi, rfl, rfl⟩
      | false =>
        refine gos ?_
        refine RetW.plain (by simp) ?_
        exact ⟨by rw [allB_f hlt hpi], i + 1, by omega, rfl, fun h => by rw [allB_f hlt hpi] at h; cases h⟩
    · refine CmpW.N ?_
      refine gos ?_
      have : i = l.length := by omega
      subst this
      exact ⟨_, 3, fgts, allB_t hp, rfl, rfl⟩
  rintro e h ⟨hB, rfl, rfl⟩
  rw [hB]
  refine AC.go tab ?_
  refine gos ?_
  refine RetW.plain (by simp) ?_
  exact ⟨rfl, l.length, Nat.le_refl _, rfl, fun _ => rfl⟩
end Go.Proofs.YtjjppmbojcgdgaaGreatDoor

namespace Go.Proofs.YtjjppmbojcgdgaaGreatDoor
open Go Go.Abs
attribute [local irreducible] DrawW CallW RetW AC Does CmpW
structure Bra where
  texts : List (List UInt8)
  places : List Nat
  from_ : Nat
def strEs (xs : List (List UInt8)) : List (List AV) := xs.map fun t => [.str t]
def natEs (xs : List Nat) : List (List AV) := xs.map fun (n : Nat) => [.int .i64 (n : Int)]
@[simp] theorem strEs_length (xs : List (List UInt8)) : (strEs xs).length = xs.length := by simp [strEs]
@[simp] theorem natEs_length (xs : List Nat) : (natEs xs).length = xs.length := by simp [natEs]
theorem strEs_closed : ∀ xs, closedLL (strEs xs) = true
  | [] => rfl
  | x :: xs => by simp [strEs, closedLL, closedL, closed]; exact strEs_closed xs
theorem strEs1_closed (xs : List (List UInt8)) (t : List UInt8) : closedLL (strEs xs ++ [[.str t]]) = true := by
  have := strEs_closed (xs ++ [t])
  simpa [strEs] using this
theorem natEs_closed : ∀ xs, closedLL (natEs xs) = true
  | [] => rfl
  | x :: xs => by simp [natEs, closedLL, closedL, closed]; exact natEs_closed xs
def plcF (s : List UInt8) (i : Nat) : Option Nat := match s[i + 1]?, s[i + 2]? with
  | some c, some d => if 48 ≤ c.toNat ∧ c.toNat ≤ 57 ∧ d = 125 then some (c.toNat - 48) else none
  | _, _ => none
def braL (s : List UInt8) (n : Int) : Nat → Nat → List Nat → Bra → Except (Int × Nat) Bra
  | 0, _, _, B => .ok B
  | f + 1, i, seen, B => match s[i]? with
    | none => .ok B
    | some c =>
      if c = 125 then .error (1, i)
      else if c = 123 then match plcF s i with
        | none => .error (1, i)
        | some k => if n ≤ (k : Int) ∨ k ∈ seen then .error (3, i)
          else braL s n f (i + 3) (k :: seen) ⟨B.texts ++ [(s.take i).drop B.from_], B.places ++ [k], i + 3⟩
      else braL s n f (i + 1) seen B
def bra0 (s : List UInt8) (n : Int) : Except (Int × Nat) Bra := braL s n (s.length + 1) 0 [] ⟨[], [], 0⟩
def braF (s : List UInt8) (n : Int) : Except (Int × Nat) (List (List UInt8) × List Nat) :=
  if rightF s = false then .error (1, 0) else match bra0 s n with
    | .error r => .error r
    | .ok B => if (B.places.length : Int) < min n 10 then .error (3, s.length) else .ok (B.texts ++ [s.drop B.from_], B.places)
def braV (r : Except (Int × Nat) (List (List UInt8) × List Nat)) : AV := match r with
  | .error e => .tuple [.agg [.nils, .nils], .int .i64 e.1, .int .i64 e.2]
  | .ok (ts, ps) => .tuple [.agg [.fsl (strEs ts), .fsl (natEs ps)], .int .i64 0, .int .i64 0]
def senC (seen : List Nat) : List AV := (List.range 10).map fun k => .bool (decide (k ∈ seen))
theorem senC_get {seen : List Nat} {k : Nat} (hk : k < 10) : (senC seen)[k]? = some (.bool (decide (k ∈ seen))) := by
  unfold senC
  rw [List.getElem?_map, List.getElem?_range hk]; rfl
theorem senC_set {seen : List Nat} {k : Nat} (hk : k < 10) : (senC seen).set k (.bool true) = senC (k :: seen) := by
  apply List.ext_getElem?
  intro j
  by_cases hj : j < 10
  · by_cases e : k = j
    · subst e
      rw [List.getElem?_set_self (by simp [senC]; exact hk), senC_get hk]; simp
    · rw [List.getElem?_set_ne e, senC_get hj, senC_get hj]
      simp [Ne.symm e]
  · rw [List.getElem?_eq_none (by simp [senC]; omega), List.getElem?_eq_none (by simp [senC]; omega)]
theorem drop_at {cs : List AV} {n k : Nat} {a : AV} {K : List AV → Prop} (hn : n = k) (h : cs[k]? = some a) (hk : ∀ r, K (a :: r)) : dropK cs n K := by
  subst hn
  obtain ⟨hlt, ha⟩ := List.getElem?_eq_some_iff.1 h
  refine dropK_of (Nat.le_of_lt hlt) ?_
  rw [List.drop_eq_getElem_cons hlt, ha]
  exact hk _
theorem splice_at {e : List AV} {n k : Nat} {a : AV} {K : List AV → Prop} (hn : n = k) (hk : k < e.length) (h : K (e.set k a)) : spliceK e n [a] K := by
  subst hn
  induction e generalizing n K with
  | nil => simp at hk
  | cons c e ih =>
    cases n with
    | zero =>
      cases e <;> exact h
    | succ n =>
      simp only [spliceK]
      exact ih (by simpa using hk) h
theorem bad_yes {s : List UInt8} {i : Nat} {c d : UInt8} (hc : s[i + 1]? = some c) (hd : s[i + 2]? = some d) (h1 : 48 ≤ c.toNat) (h2 : c.toNat ≤ 57) (h3 : d = 125) : plcF s i = some (c.toNat - 48) := by
  unfold plcF; rw [hc, hd]; simp [h1, h2, h3]
theorem bad_no {s : List UInt8} {i : Nat} {c d : UInt8} (hc : s[i + 1]? = some c) (hd : s[i + 2]? = some d) (h : ¬ (48 ≤ c.toNat ∧ c.toNat ≤ 57 ∧ d = 125)) : plcF s i = none := by
  unfold plcF; rw [hc, hd]; simp only [if_neg h]
theorem BParse_does (m : Int) (s : List UInt8) (n : Int) (hs : s.length < 100000) (hn : -9223372036854775808 ≤ n ∧ n ≤ 9223372036854775807) :
    Does Tryz.prog (GL m) 165 [.str s, .int .i64 n] [] fun ae _ => ae = .ret (braV (braF s n)) := by
  refine Does.bodyA tab Tryz.func165 rfl rfl ?_
  refine AC.step tab ?_
  refine gos ?_
  intro v1
  refine gos ?_
  refine AC.step tab ?_
  refine gos ?_
  refine CallW.pure (Right_does m s (by omega)) rfl rfl ?_
  cases hR : rightF s with
  | false =>
    (repeat (first | refine gof ?_ | refine fun (vv : Nat) => ?_))
    refine RetW.plain (by simp) ?_
    simp only [braF, hR, if_true]
    (first | exact ⟨rfl, rfl⟩ | exact ⟨trivial, rfl⟩ | exact ⟨rfl, trivial⟩ | rfl | trivial | done)
  | true =>
  refine gos ?_
  refine AC.step tab ?_
  refine gos ?_
  intro v2
  refine gos ?_
  refine AC.step tab ?_
  refine gos ?_
  intro v3
  refine gos ?_
  refine AC.step tab ?_
  refine gos ?_
  refine AC.ownC 1 0 9 1 rfl rfl rfl (by omega) fun v4 => ?_
  refine AC.ownC 1 1 3 1 rfl rfl rfl (by omega) fun v5 => ?_
  refine AC.cutF tab (fun e h => ∃ (B : Bra) (va vb : Nat) (o2 : Option AObj), bra0 s n = .ok B ∧ B.from_ ≤ s.length ∧ B.texts.length ≤ s.length ∧
    e = [.str s, .int .i64 n, .any, .any, .ptr 0 v1 0 0, .int .i64 0, .int .i64 0, .ptr 1 v2 0 0, .any, .int .i64 B.from_] ++ List.replicate 105 .any ∧
    h = [some ⟨v1, 161, 2, [[.nils, .nils]]⟩, some ⟨v2, 161, 2, [[.sl 3 va, .sl 4 vb]]⟩, o2, some ⟨va, 9, 1, strEs B.texts⟩, some ⟨vb, 3, 1, natEs B.places⟩]) ?_ ?_
  · refine gos ?_
    refine AC.loopC tab (fun f e h => ∃ (i : Nat) (B : Bra) (seen : List Nat) (va vb : Nat) (tE pE : List (List AV)), s.length < f + i ∧ i ≤ s.length ∧ B.from_ ≤ i ∧ B.texts.length ≤ i ∧ B.places.length ≤ i ∧ bra0 s n = braL s n f i seen B ∧ tE = strEs B.texts ∧ pE = natEs B.places ∧
      e = [.str s, .int .i64 n, .any, .any, .ptr 0 v1 0 0, .int .i64 0, .int .i64 0, .ptr 1 v2 0 0, .ptr 2 v3 0 0, .int .i64 B.from_, .int .i64 i] ++ List.replicate 104 .any ∧
      h = [some ⟨v1, 161, 2, [[.nils, .nils]]⟩, some ⟨v2, 161, 2, [[.sl 3 va, .sl 4 vb]]⟩, some ⟨v3, 337, 10, [senC seen]⟩, some ⟨va, 9, 1, tE⟩, some ⟨vb, 3, 1, pE⟩])
      (s.length + 1) ⟨_, fgts, 0, ⟨[], [], 0⟩, [], v4, v5, [], [], by omega, by omega, by simp, by simp, by simp, rfl, rfl, rfl, rfl, rfl⟩ ?_
    rintro f e h ⟨i, B, seen, va, vb, tE, pE, hf, hi, hfr, htl, hpl, hal, rfl, rfl, rfl, rfl⟩
    obtain ⟨f, rfl⟩ : ∃ q, f = q + 1 := ⟨f - 1, by omega⟩
    have hres : ∀ r, braL s n (f + 1) i seen B = .error r → braF s n = .error r := fun r h => by simp only [braF, hR, hal, h]; simp
    refine gos ?_
    by_cases hlt : i < s.length
    · obtain ⟨c, hc⟩ : ∃ c, s[i]? = some c := ⟨_, List.getElem?_eq_getElem hlt⟩
      simp only [braL, hc] at hal hres
      refine CmpW.T ?_
      refine gos ?_
      refine And.intro (by omega) ⟨c, hc, ?_⟩
      refine gos ?_
      by_cases h125 : c = 125
      · subst h125
        refine CmpW.t (by simp) ?_
        refine gos ?_
        refine RetW.plain (by simp) ?_
        rw [hres _ (if_pos rfl)]; rfl
      rw [if_neg h125] at hal hres
      refine CmpW.f (by simp; exact fun h => h125 (u8_of h rfl)) ?_
      refine gos ?_
      by_cases h123 : c = 123
      · subst h123
        rw [if_pos rfl] at hal hres
        refine CmpW.t (by simp) ?_
        refine gos ?_
        by_cases h2 : i + 2 < s.length
        · obtain ⟨c1, hc1⟩ : ∃ c, s[i + 1]? = some c := ⟨_, List.getElem?_eq_getElem (by omega)⟩
          obtain ⟨c2, hc2⟩ : ∃ c, s[i + 2]? = some c := ⟨_, List.getElem?_eq_getElem (by omega)⟩
          refine CmpW.N ?_
          refine gos ?_
          refine And.intro (by omega) ⟨c1, hc1, ?_⟩
          refine gos ?_
          by_cases g1 : c1.toNat < 48
          · have hp := bad_no hc1 hc2 (by omega)
            refine CmpW.T ?_
            refine gos ?_
            refine RetW.plain (by simp) ?_
            rw [hres _ (by rw [hp])]; rfl
          refine CmpW.N ?_
          refine gos ?_
          refine And.intro (by omega) ⟨c1, hc1, ?_⟩
          refine gos ?_
          by_cases g2 : 57 < c1.toNat
          · have hp := bad_no hc1 hc2 (by omega)
            refine CmpW.T ?_
            refine gos ?_
            refine RetW.plain (by simp) ?_
            rw [hres _ (by rw [hp])]; rfl
          refine CmpW.N ?_
          refine gos ?_
          refine And.intro (by omega) ⟨c2, hc2, ?_⟩
          refine gos ?_
          by_cases g3 : c2 = 125
          case neg =>
            have hp := bad_no hc1 hc2 (fun h => g3 h.2.2)
            refine CmpW.t (by simp; exact fun h => g3 (u8_of h rfl)) ?_
            refine gos ?_
            refine RetW.plain (by simp) ?_
            rw [hres _ (by rw [hp])]; rfl
          have hp := bad_yes hc1 hc2 (by omega) (by omega) g3
          subst g3
          refine CmpW.f (by simp) ?_
          refine gos ?_
          refine And.intro (by omega) ⟨c1, hc1, ?_⟩
          refine gos ?_
          obtain ⟨k, hk⟩ : ∃ k, k = c1.toNat - 48 := ⟨_, rfl⟩
          have hk10 : k < 10 := by omega
          rw [← hk] at hp
          rw [hp] at hal hres
          simp only at hal hres
          have hkk : IntKind.i64.wrap (IntKind.u8.wrap ((c1.toNat : Int) - 48)) = (k : Int) := by
            rw [wrap_u8 (by omega) (by omega), wrap_i64 (by omega) (by omega)]; omega
          rw [hkk]
          by_cases g4 : n ≤ (k : Int)
          · refine CmpW.T ?_
            refine gos ?_
            refine RetW.plain (by simp) ?_
            rw [hres _ (if_pos (.inl g4))]; rfl
          refine CmpW.N ?_
          refine gos ?_
          refine And.intro (And.intro (by omega) (by omega)) ?_
          refine gos ?_
          refine drop_at (k := k) (by show 0 + (k : Int).toNat * 1 = k; simp) (senC_get hk10) (fun r => ?_)
          refine gos ?_
          by_cases g5 : k ∈ seen
          · rw [decide_eq_true g5]
            refine gos ?_
            refine RetW.plain (by simp) ?_
            rw [hres _ (if_pos (.inr g5))]; rfl
          rw [decide_eq_false g5]
          rw [if_neg (by rintro (h | h); exact g4 h; exact g5 h)] at hal
          clear hres hkk hk hp hc1 hc2
          refine gos ?_
          refine And.intro (And.intro (by omega) (by omega)) ?_
          refine gos ?_
          refine splice_at (k := k) (by show 0 + (k : Int).toNat * 1 = k; simp) (by simp [senC]; exact hk10) ?_
          rw [senC_set hk10]
          refine gos ?_
          refine DrawW.P (.take 0 (.take 2 (.take 3 (.take 4 (.take 5 (.take 8 (.take 10 (.fork (.cons 1 (.fork (.cons 6 (.fork (.cons 7 (.fork (.cons 9 (.take 13 (.take 11 (.take 12 (.take 14 (.take 15 (.take 16 .done)))))) (.cons 11 (.take 9 (.take 13 (.take 12 (.take 14 (.take 15 (.take 16 .done)))))) .nil))) (.cons 9 (.fork (.cons 7 (.take 13 (.take 11 (.take 12 (.take 14 (.take 15 (.take 16 .done)))))) (.cons 11 (.take 7 (.take 13 (.take 12 (.take 14 (.take 15 (.take 16 .done)))))) .nil))) (.cons 11 (.fork (.cons 7 (.take 9 (.take 13 (.take 12 (.take 14 (.take 15 (.take 16 .done)))))) (.cons 9 (.take 7 (.take 13 (.take 12 (.take 14 (.take 15 (.take 16 .done)))))) .nil))) .nil)))) (.cons 9 (.fork (.cons 6 (.fork (.cons 7 (.take 13 (.take 11 (.take 12 (.take 14 (.take 15 (.take 16 .done)))))) (.cons 11 (.take 7 (.take 13 (.take 12 (.take 14 (.take 15 (.take 16 .done)))))) .nil))) (.cons 11 (.take 6 (.take 7 (.take 13 (.take 12 (.take 14 (.take 15 (.take 16 .done))))))) .nil))) (.cons 11 (.fork (.cons 6 (.fork (.cons 7 (.take 9 (.take 13 (.take 12 (.take 14 (.take 15 (.take 16 .done)))))) (.cons 9 (.take 7 (.take 13 (.take 12 (.take 14 (.take 15 (.take 16 .done)))))) .nil))) (.cons 9 (.take 6 (.take 7 (.take 13 (.take 12 (.take 14 (.take 15 (.take 16 .done))))))) .nil))) .nil)))) (.cons 6 (.fork (.cons 1 (.fork (.cons 7 (.fork (.cons 9 (.take 13 (.take 11 (.take 12 (.take 14 (.take 15 (.take 16 .done)))))) (.cons 11 (.take 9 (.take 13 (.take 12 (.take 14 (.take 15 (.take 16 .done)))))) .nil))) (.cons 9 (.fork (.cons 7 (.take 13 (.take 11 (.take 12 (.take 14 (.take 15 (.take 16 .done)))))) (.cons 11 (.take 7 (.take 13 (.take 12 (.take 14 (.take 15 (.take 16 .done)))))) .nil))) (.cons 11 (.fork (.cons 7 (.take 9 (.take 13 (.take 12 (.take 14 (.take 15 (.take 16 .done)))))) (.cons 9 (.take 7 (.take 13 (.take 12 (.take 14 (.take 15 (.take 16 .done)))))) .nil))) .nil)))) (.cons 9 (.fork (.cons 1 (.fork (.cons 7 (.take 13 (.take 11 (.take 12 (.take 14 (.take 15 (.take 16 .done)))))) (.cons 11 (.take 7 (.take 13 (.take 12 (.take 14 (.take 15 (.take 16 .done)))))) .nil))) (.cons 11 (.take 1 (.take 7 (.take 13 (.take 12 (.take 14 (.take 15 (.take 16 .done))))))) .nil))) (.cons 11 (.take 1 (.fork (.cons 7 (.take 9 (.take 13 (.take 12 (.take 14 (.take 15 (.take 16 .done)))))) (.cons 9 (.take 7 (.take 13 (.take 12 (.take 14 (.take 15 (.take 16 .done)))))) .nil)))) .nil)))) (.cons 9 (.fork (.cons 1 (.fork (.cons 6 (.fork (.cons 7 (.take 13 (.take 11 (.take 12 (.take 14 (.take 15 (.take 16 .done)))))) (.cons 11 (.take 7 (.take 13 (.take 12 (.take 14 (.take 15 (.take 16 .done)))))) .nil))) (.cons 11 (.take 6 (.take 7 (.take 13 (.take 12 (.take 14 (.take 15 (.take 16 .done))))))) .nil))) (.cons 6 (.fork (.cons 1 (.fork (.cons 7 (.take 13 (.take 11 (.take 12 (.take 14 (.take 15 (.take 16 .done)))))) (.cons 11 (.take 7 (.take 13 (.take 12 (.take 14 (.take 15 (.take 16 .done)))))) .nil))) (.cons 11 (.take 1 (.take 7 (.take 13 (.take 12 (.take 14 (.take 15 (.take 16 .done))))))) .nil))) (.cons 11 (.fork (.cons 1 (.take 6 (.take 7 (.take 13 (.take 12 (.take 14 (.take 15 (.take 16 .done))))))) (.cons 6 (.take 1 (.take 7 (.take 13 (.take 12 (.take 14 (.take 15 (.take 16 .done))))))) .nil))) .nil)))) (.cons 11 (.fork (.cons 1 (.fork (.cons 6 (.fork (.cons 7 (.take 9 (.take 13 (.take 12 (.take 14 (.take 15 (.take 16 .done)))))) (.cons 9 (.take 7 (.take 13 (.take 12 (.take 14 (.take 15 (.take 16 .done)))))) .nil))) (.cons 9 (.take 6 (.take 7 (.take 13 (.take 12 (.take 14 (.take 15 (.take 16 .done))))))) .nil))) (.cons 6 (.take 1 (.fork (.cons 7 (.take 9 (.take 13 (.take 12 (.take 14 (.take 15 (.take 16 .done)))))) (.cons 9 (.take 7 (.take 13 (.take 12 (.take 14 (.take 15 (.take 16 .done)))))) .nil)))) (.cons 9 (.fork (.cons 1 (.take 6 (.take 7 (.take 13 (.take 12 (.take 14 (.take 15 (.take 16 .done))))))) (.cons 6 (.take 1 (.take 7 (.take 13 (.take 12 (.take 14 (.take 15 (.take 16 .done))))))) .nil))) .nil)))) .nil)))))))))))) ?_
          (repeat' (first | exact trivial | refine gon ?_ | refine And.intro (And.intro (by omega) (And.intro (by omega) (by omega))) ?_ | refine fun (vv : Nat) => ?_ | (refine And.intro (And.intro (fun y hy => by rcases List.mem_singleton.1 hy with rfl; rfl) (fun y hy => by rcases List.mem_singleton.1 hy with rfl; rfl)) ?_; refine And.intro (And.intro rfl trivial) ?_) | refine gobnd ?_ | refine And.intro ?_ ?_))
          all_goals
            exact ⟨f, _, 5, by omega, fgts, i + 3, ⟨B.texts ++ [(s.take i).drop B.from_], B.places ++ [k], i + 3⟩, k :: seen, _, _, _, _, by omega, by omega, by simp, by simp; omega, by simp; omega, hal, by simp [strEs], by simp [natEs], rfl, rfl⟩
        · have hp : plcF s i = none := by unfold plcF; rw [List.getElem?_eq_none (show s.length ≤ i + 2 by omega)]; split <;> first | rfl | (rename_i h; cases h)
          rw [hp] at hres
          refine CmpW.T ?_
          refine gos ?_
          refine RetW.plain (by simp) ?_
          rw [hres _ rfl]; rfl
      · rw [if_neg h123] at hal
        refine CmpW.f (by simp; exact fun h => h123 (u8_of h rfl)) ?_
        refine gos ?_
        exact ⟨f, _, 5, by omega, fgts, i + 1, B, seen, va, vb, _, _, by omega, by omega, by omega, by omega, by omega, hal, rfl, rfl, rfl, rfl⟩
    · simp only [braL, List.getElem?_eq_none (show s.length ≤ i by omega)] at hal
      refine CmpW.N ?_
      refine gos ?_
      exact ⟨_, 5, fgts, B, va, vb, _, hal, by omega, by omega, rfl, rfl⟩
  rintro e h ⟨B, va, vb, o2, hB, hfr, htl, rfl, rfl⟩
  have hF : braF s n = if (B.places.length : Int) < min n 10 then .error (3, s.length) else .ok (B.texts ++ [s.drop B.from_], B.places) := by simp only [braF, hR, hB]; simp
  have hmin : (if (10 : Int) < n then (10 : Int) else n) = min n 10 := by omega
  refine AC.step tab ?_
  refine gos ?_
  rw [hmin]
  by_cases hlt : (B.places.length : Int) < min n 10
  · refine CmpW.t (by simpa using hlt) ?_
    refine gos ?_
    refine RetW.plain (by simp) ?_
    rw [hF, if_pos hlt]; rfl
  refine CmpW.f (by simpa using hlt) ?_
  refine gos ?_
  rw [if_neg hlt] at hF
  refine AC.go tab ?_
  refine gos ?_
  refine DrawW.P (.take 0 (.take 2 (.take 3 (.take 4 (.fork (.cons 1 (.take 5 (.take 6 (.take 7 (.take 8 .done)))) (.cons 5 (.take 1 (.take 6 (.take 7 (.take 8 .done)))) .nil))))))) ?_
  (repeat' (first | exact trivial | refine gon ?_ | refine And.intro (And.intro (by omega) (by omega)) ?_ | refine fun (vv : Nat) => ?_ | (refine And.intro (And.intro (fun y hy => by rcases List.mem_singleton.1 hy with rfl; rfl) (fun y hy => by rcases List.mem_singleton.1 hy with rfl; rfl)) ?_; refine And.intro (And.intro rfl trivial) ?_) | refine gobnd ?_ | refine And.intro ?_ ?_))
  all_goals
    refine RetW.wk (r' := .tuple [.agg [.fsl (strEs B.texts ++ [[.str (s.drop B.from_)]]), .fsl (natEs B.places)], .int .i64 0, .int .i64 0]) (by simp) ?_ (Wk.tuple (Wk.agg (cs := [.sl 3 vv, .sl 4 vb]) (cs' := [.fsl (strEs B.texts ++ [[.str (s.drop B.from_)]]), .fsl (natEs B.places)]) rfl
      (Wk.trans (Wk.row (k := 0) (i := 3) (o := ⟨vv, 9, 1, strEs B.texts ++ [[.str (s.drop B.from_)]]⟩) rfl rfl rfl (strEs1_closed _ _)) (Wk.row (k := 1) (i := 4) (o := ⟨vb, 3, 1, natEs B.places⟩) rfl rfl rfl (natEs_closed _))))) ?_
    · rfl
    · rw [hF]
      simp [braV, strEs]
end Go.Proofs.YtjjppmbojcgdgaaGreatDoor
