/- The reader of patterns: places. -/
import Derived.Test.YtjbkhjjaajhjaaaDoorPat3
set_option linter.unusedVariables false
set_option linter.unusedSimpArgs false
namespace Go.Proofs.YtjbkhjjaajhjaaaDoor
open Go Go.Abs
attribute [local irreducible] DrawW CallW RetW AC Does CmpW
set_option maxRecDepth 100000
variable {G : Globs}

structure Num where
  hash : Nat
  mi : Nat
  mnf : Nat
  mxf : Nat
  g : Nat
  m : Nat
def Num.zero : Num := ⟨0, 0, 0, 0, 0, 0⟩
structure Aff where
  a : AV
  b : AV
  c : AV
  d : AV
def Aff.ok (x : Aff) : Prop := closed x.a = true ∧ closed x.b = true ∧ closed x.c = true ∧ closed x.d = true
def patCells (x : Aff) (two : Bool) (N : Num) : List AV := [x.a, x.b, x.c, x.d, .bool two, .int .i64 N.hash, .int .i64 N.mi, .int .i64 N.mnf, .int .i64 N.mxf, .int .i64 N.g, .int .i64 N.m]
def patO (pv : Nat) (x : Aff) (two : Bool) (N : Num) : AObj := ⟨pv, 27, 11, [patCells x two N]⟩
theorem patO_closed {pv : Nat} {x : Aff} {two : Bool} {N : Num} (h : x.ok) : closedLL (patO pv x two N).es = true := by
  obtain ⟨h1, h2, h3, h4⟩ := h
  simp [patO, patCells, closedLL, closedL, h1, h2, h3, h4, closed]
def ints (cs : List Nat) : List (List AV) := cs.map fun (c : Nat) => [.int .i64 (c : Int)]
def intO (cv : Nat) (cs : List Nat) : AObj := ⟨cv, 3, 1, ints cs⟩
@[simp] theorem intO_len (cv : Nat) (cs : List Nat) : (intO cv cs).es.length = cs.length := by simp [intO, ints]
theorem intO_closed (cv : Nat) : ∀ cs : List Nat, closedLL (intO cv cs).es = true
  | [] => rfl
  | c :: cs => by
    have := intO_closed cv cs
    simp only [intO, ints] at this
    simp [intO, ints, closedLL, closedL, closed, this]

/-- How long groups are. -/
def grpF (places : Nat) (cs : List Nat) (N : Num) : Option Num :=
  if places = 0 then none else match cs with
    | [] => some N
    | [c] => if places = c then none else some { N with g := places - c }
    | [c, d] => if places = d then none else if d - c = places - d then some { N with g := places - d } else some { N with g := places - d, m := d - c }
    | _ => none

theorem groups_does (s : List UInt8) (a ver pv cv places : Nat) (x : Aff) (hx : x.ok) (two : Bool) (N : Num) (cs : List Nat) (hp : places < 1000000) (hc : cs.length ≤ 2) (h1 : ∀ c ∈ cs, c ≤ places) (h2 : ∀ c d, cs = [c, d] → c ≤ d) :
    Does Tryd.prog G 37 [.ptr 0 ver 0 0, .ptr 1 pv 0 0, .int .i64 places, .sl 2 cv] [some (rdr ver s a), some (patO pv x two N), some (intO cv cs)] fun ae O => match grpF places cs N with
      | none => ae = .panic (faultV a)
      | some N' => ae = .ret (.tuple []) ∧ O = [some (rdr ver s a), some (patO pv x two N'), some (intO cv cs)] := by
  refine Does.body tab Tryd.func37 rfl rfl ?_
  (repeat (first | refine And.intro rfl ?_ | refine Exists.intro _ (And.intro (wrap_i64 (by first | omega | (simp; done) | (simp; omega)) (by first | omega | (simp; done) | (simp; omega))) ?_) | refine Exists.intro _ (And.intro rfl ?_) | refine And.intro (fun _ => ?_) (fun h => Bool.noConfusion h) | refine And.intro (fun h => Bool.noConfusion h) (fun _ => ?_) | refine And.intro (And.intro (by decide) (by decide)) ?_ | refine And.intro (And.intro (Nat.le_of_ble_eq_true rfl) (Nat.le_of_ble_eq_true rfl)) ?_ | refine And.intro (And.intro rfl (And.intro rfl (And.intro rfl rfl))) ?_ | refine And.intro (And.intro rfl (And.intro rfl (Nat.le_of_ble_eq_true rfl))) ?_ | refine And.intro (And.intro rfl (And.intro rfl rfl)) ?_ | refine And.intro trivial ?_ | refine CmpW.t rfl ?_ | refine CmpW.f rfl ?_))
  by_cases h0 : places = 0
  · refine CmpW.t (by simpa using h0) ?_
    (repeat (first | refine And.intro rfl ?_ | refine Exists.intro _ (And.intro (wrap_i64 (by first | omega | (simp; done) | (simp; omega)) (by first | omega | (simp; done) | (simp; omega))) ?_) | refine Exists.intro _ (And.intro rfl ?_) | refine And.intro (fun _ => ?_) (fun h => Bool.noConfusion h) | refine And.intro (fun h => Bool.noConfusion h) (fun _ => ?_) | refine And.intro (And.intro (by decide) (by decide)) ?_ | refine And.intro (And.intro (Nat.le_of_ble_eq_true rfl) (Nat.le_of_ble_eq_true rfl)) ?_ | refine And.intro (And.intro rfl (And.intro rfl (And.intro rfl rfl))) ?_ | refine And.intro (And.intro rfl (And.intro rfl (Nat.le_of_ble_eq_true rfl))) ?_ | refine And.intro (And.intro rfl (And.intro rfl rfl)) ?_ | refine And.intro trivial ?_ | refine CmpW.t rfl ?_ | refine CmpW.f rfl ?_))
    refine CallW.of1 0 (fail_does s a ver) rfl rfl rfl rfl ?_
    rintro ae O ⟨rfl, rfl⟩
    refine ⟨_, rfl, rfl, rfl, ?_⟩
    (repeat (first | refine And.intro rfl ?_ | refine Exists.intro _ (And.intro (wrap_i64 (by first | omega | (simp; done) | (simp; omega)) (by first | omega | (simp; done) | (simp; omega))) ?_) | refine Exists.intro _ (And.intro rfl ?_) | refine And.intro (fun _ => ?_) (fun h => Bool.noConfusion h) | refine And.intro (fun h => Bool.noConfusion h) (fun _ => ?_) | refine And.intro (And.intro (by decide) (by decide)) ?_ | refine And.intro (And.intro (Nat.le_of_ble_eq_true rfl) (Nat.le_of_ble_eq_true rfl)) ?_ | refine And.intro (And.intro rfl (And.intro rfl (And.intro rfl rfl))) ?_ | refine And.intro (And.intro rfl (And.intro rfl (Nat.le_of_ble_eq_true rfl))) ?_ | refine And.intro (And.intro rfl (And.intro rfl rfl)) ?_ | refine And.intro trivial ?_ | refine CmpW.t rfl ?_ | refine CmpW.f rfl ?_))
    refine ⟨by simp, ?_⟩
    simp [grpF, h0]
  · refine CmpW.f (by simpa using h0) ?_
    (repeat (first | refine And.intro rfl ?_ | refine Exists.intro _ (And.intro (wrap_i64 (by first | omega | (simp; done) | (simp; omega)) (by first | omega | (simp; done) | (simp; omega))) ?_) | refine Exists.intro _ (And.intro rfl ?_) | refine And.intro (fun _ => ?_) (fun h => Bool.noConfusion h) | refine And.intro (fun h => Bool.noConfusion h) (fun _ => ?_) | refine And.intro (And.intro (by decide) (by decide)) ?_ | refine And.intro (And.intro (Nat.le_of_ble_eq_true rfl) (Nat.le_of_ble_eq_true rfl)) ?_ | refine And.intro (And.intro rfl (And.intro rfl (And.intro rfl rfl))) ?_ | refine And.intro (And.intro rfl (And.intro rfl (Nat.le_of_ble_eq_true rfl))) ?_ | refine And.intro (And.intro rfl (And.intro rfl rfl)) ?_ | refine And.intro trivial ?_ | refine CmpW.t rfl ?_ | refine CmpW.f rfl ?_))
    match cs, hc with
    | [], _ =>
      (repeat (first | refine And.intro rfl ?_ | refine Exists.intro _ (And.intro (wrap_i64 (by first | omega | (simp; done) | (simp; omega)) (by first | omega | (simp; done) | (simp; omega))) ?_) | refine Exists.intro _ (And.intro rfl ?_) | refine And.intro (fun _ => ?_) (fun h => Bool.noConfusion h) | refine And.intro (fun h => Bool.noConfusion h) (fun _ => ?_) | refine And.intro (And.intro (by decide) (by decide)) ?_ | refine And.intro (And.intro (Nat.le_of_ble_eq_true rfl) (Nat.le_of_ble_eq_true rfl)) ?_ | refine And.intro (And.intro rfl (And.intro rfl (And.intro rfl rfl))) ?_ | refine And.intro (And.intro rfl (And.intro rfl (Nat.le_of_ble_eq_true rfl))) ?_ | refine And.intro (And.intro rfl (And.intro rfl rfl)) ?_ | refine And.intro trivial ?_ | refine CmpW.t rfl ?_ | refine CmpW.f rfl ?_))
      refine RetW.plain (by simp) ?_
      simp [grpF, h0]
    | [c], _ =>
      have hc1 := h1 c (by simp)
      (repeat (first | refine And.intro rfl ?_ | refine Exists.intro _ (And.intro (wrap_i64 (by first | omega | (simp; done) | (simp; omega)) (by first | omega | (simp; done) | (simp; omega))) ?_) | refine Exists.intro _ (And.intro rfl ?_) | refine And.intro (fun _ => ?_) (fun h => Bool.noConfusion h) | refine And.intro (fun h => Bool.noConfusion h) (fun _ => ?_) | refine And.intro (And.intro (by decide) (by decide)) ?_ | refine And.intro (And.intro (Nat.le_of_ble_eq_true rfl) (Nat.le_of_ble_eq_true rfl)) ?_ | refine And.intro (And.intro rfl (And.intro rfl (And.intro rfl rfl))) ?_ | refine And.intro (And.intro rfl (And.intro rfl (Nat.le_of_ble_eq_true rfl))) ?_ | refine And.intro (And.intro rfl (And.intro rfl rfl)) ?_ | refine And.intro trivial ?_ | refine CmpW.t rfl ?_ | refine CmpW.f rfl ?_))
      refine And.intro (by simp) ?_
      (repeat (first | refine And.intro rfl ?_ | refine Exists.intro _ (And.intro (wrap_i64 (by first | omega | (simp; done) | (simp; omega)) (by first | omega | (simp; done) | (simp; omega))) ?_) | refine Exists.intro _ (And.intro rfl ?_) | refine And.intro (fun _ => ?_) (fun h => Bool.noConfusion h) | refine And.intro (fun h => Bool.noConfusion h) (fun _ => ?_) | refine And.intro (And.intro (by decide) (by decide)) ?_ | refine And.intro (And.intro (Nat.le_of_ble_eq_true rfl) (Nat.le_of_ble_eq_true rfl)) ?_ | refine And.intro (And.intro rfl (And.intro rfl (And.intro rfl rfl))) ?_ | refine And.intro (And.intro rfl (And.intro rfl (Nat.le_of_ble_eq_true rfl))) ?_ | refine And.intro (And.intro rfl (And.intro rfl rfl)) ?_ | refine And.intro trivial ?_ | refine CmpW.t rfl ?_ | refine CmpW.f rfl ?_))
      have e1 : (places : Int) - (c : Int) = ((places - c : Nat) : Int) := by omega
      rw [e1]
      by_cases hg : places = c
      · refine CmpW.t (by simp; omega) ?_
        (repeat (first | refine And.intro rfl ?_ | refine Exists.intro _ (And.intro (wrap_i64 (by first | omega | (simp; done) | (simp; omega)) (by first | omega | (simp; done) | (simp; omega))) ?_) | refine Exists.intro _ (And.intro rfl ?_) | refine And.intro (fun _ => ?_) (fun h => Bool.noConfusion h) | refine And.intro (fun h => Bool.noConfusion h) (fun _ => ?_) | refine And.intro (And.intro (by decide) (by decide)) ?_ | refine And.intro (And.intro (Nat.le_of_ble_eq_true rfl) (Nat.le_of_ble_eq_true rfl)) ?_ | refine And.intro (And.intro rfl (And.intro rfl (And.intro rfl rfl))) ?_ | refine And.intro (And.intro rfl (And.intro rfl (Nat.le_of_ble_eq_true rfl))) ?_ | refine And.intro (And.intro rfl (And.intro rfl rfl)) ?_ | refine And.intro trivial ?_ | refine CmpW.t rfl ?_ | refine CmpW.f rfl ?_))
        refine CallW.of1 0 (fail_does s a ver) rfl rfl rfl rfl ?_
        rintro ae O ⟨rfl, rfl⟩
        refine ⟨_, rfl, rfl, rfl, ?_⟩
        (repeat (first | refine And.intro rfl ?_ | refine Exists.intro _ (And.intro (wrap_i64 (by first | omega | (simp; done) | (simp; omega)) (by first | omega | (simp; done) | (simp; omega))) ?_) | refine Exists.intro _ (And.intro rfl ?_) | refine And.intro (fun _ => ?_) (fun h => Bool.noConfusion h) | refine And.intro (fun h => Bool.noConfusion h) (fun _ => ?_) | refine And.intro (And.intro (by decide) (by decide)) ?_ | refine And.intro (And.intro (Nat.le_of_ble_eq_true rfl) (Nat.le_of_ble_eq_true rfl)) ?_ | refine And.intro (And.intro rfl (And.intro rfl (And.intro rfl rfl))) ?_ | refine And.intro (And.intro rfl (And.intro rfl (Nat.le_of_ble_eq_true rfl))) ?_ | refine And.intro (And.intro rfl (And.intro rfl rfl)) ?_ | refine And.intro trivial ?_ | refine CmpW.t rfl ?_ | refine CmpW.f rfl ?_))
        refine ⟨by simp, ?_⟩
        simp [grpF, h0, hg]
      · refine CmpW.f (by simp; omega) ?_
        (repeat (first | refine And.intro rfl ?_ | refine Exists.intro _ (And.intro (wrap_i64 (by first | omega | (simp; done) | (simp; omega)) (by first | omega | (simp; done) | (simp; omega))) ?_) | refine Exists.intro _ (And.intro rfl ?_) | refine And.intro (fun _ => ?_) (fun h => Bool.noConfusion h) | refine And.intro (fun h => Bool.noConfusion h) (fun _ => ?_) | refine And.intro (And.intro (by decide) (by decide)) ?_ | refine And.intro (And.intro (Nat.le_of_ble_eq_true rfl) (Nat.le_of_ble_eq_true rfl)) ?_ | refine And.intro (And.intro rfl (And.intro rfl (And.intro rfl rfl))) ?_ | refine And.intro (And.intro rfl (And.intro rfl (Nat.le_of_ble_eq_true rfl))) ?_ | refine And.intro (And.intro rfl (And.intro rfl rfl)) ?_ | refine And.intro trivial ?_ | refine CmpW.t rfl ?_ | refine CmpW.f rfl ?_))
        refine DrawW.lex (by kernel_rfl) (by kernel_rfl) ?_
        (repeat (first | refine And.intro rfl ?_ | refine Exists.intro _ (And.intro (wrap_i64 (by first | omega | (simp; done) | (simp; omega)) (by first | omega | (simp; done) | (simp; omega))) ?_) | refine Exists.intro _ (And.intro rfl ?_) | refine And.intro (fun _ => ?_) (fun h => Bool.noConfusion h) | refine And.intro (fun h => Bool.noConfusion h) (fun _ => ?_) | refine And.intro (And.intro (by decide) (by decide)) ?_ | refine And.intro (And.intro (Nat.le_of_ble_eq_true rfl) (Nat.le_of_ble_eq_true rfl)) ?_ | refine And.intro (And.intro rfl (And.intro rfl (And.intro rfl rfl))) ?_ | refine And.intro (And.intro rfl (And.intro rfl (Nat.le_of_ble_eq_true rfl))) ?_ | refine And.intro (And.intro rfl (And.intro rfl rfl)) ?_ | refine And.intro trivial ?_ | refine CmpW.t rfl ?_ | refine CmpW.f rfl ?_))
        refine RetW.plain (by simp) ?_
        simp only [grpF, if_neg h0, if_neg hg]
        exact ⟨trivial, rfl⟩
    | [c, d], _ =>
      have hc1 := h1 c (by simp)
      have hd1 := h1 d (by simp)
      have hcd := h2 c d rfl
      (repeat (first | refine And.intro rfl ?_ | refine Exists.intro _ (And.intro (wrap_i64 (by first | omega | (simp; done) | (simp; omega)) (by first | omega | (simp; done) | (simp; omega))) ?_) | refine Exists.intro _ (And.intro rfl ?_) | refine And.intro (fun _ => ?_) (fun h => Bool.noConfusion h) | refine And.intro (fun h => Bool.noConfusion h) (fun _ => ?_) | refine And.intro (And.intro (by decide) (by decide)) ?_ | refine And.intro (And.intro (Nat.le_of_ble_eq_true rfl) (Nat.le_of_ble_eq_true rfl)) ?_ | refine And.intro (And.intro rfl (And.intro rfl (And.intro rfl rfl))) ?_ | refine And.intro (And.intro rfl (And.intro rfl (Nat.le_of_ble_eq_true rfl))) ?_ | refine And.intro (And.intro rfl (And.intro rfl rfl)) ?_ | refine And.intro trivial ?_ | refine CmpW.t rfl ?_ | refine CmpW.f rfl ?_))
      refine And.intro (by simp) ?_
      (repeat (first | refine And.intro rfl ?_ | refine Exists.intro _ (And.intro (wrap_i64 (by first | omega | (simp; done) | (simp; omega)) (by first | omega | (simp; done) | (simp; omega))) ?_) | refine Exists.intro _ (And.intro rfl ?_) | refine And.intro (fun _ => ?_) (fun h => Bool.noConfusion h) | refine And.intro (fun h => Bool.noConfusion h) (fun _ => ?_) | refine And.intro (And.intro (by decide) (by decide)) ?_ | refine And.intro (And.intro (Nat.le_of_ble_eq_true rfl) (Nat.le_of_ble_eq_true rfl)) ?_ | refine And.intro (And.intro rfl (And.intro rfl (And.intro rfl rfl))) ?_ | refine And.intro (And.intro rfl (And.intro rfl (Nat.le_of_ble_eq_true rfl))) ?_ | refine And.intro (And.intro rfl (And.intro rfl rfl)) ?_ | refine And.intro trivial ?_ | refine CmpW.t rfl ?_ | refine CmpW.f rfl ?_))
      have e1 : (places : Int) - (d : Int) = ((places - d : Nat) : Int) := by omega
      rw [e1]
      by_cases hg : places = d
      · refine CmpW.t (by simp; omega) ?_
        (repeat (first | refine And.intro rfl ?_ | refine Exists.intro _ (And.intro (wrap_i64 (by first | omega | (simp; done) | (simp; omega)) (by first | omega | (simp; done) | (simp; omega))) ?_) | refine Exists.intro _ (And.intro rfl ?_) | refine And.intro (fun _ => ?_) (fun h => Bool.noConfusion h) | refine And.intro (fun h => Bool.noConfusion h) (fun _ => ?_) | refine And.intro (And.intro (by decide) (by decide)) ?_ | refine And.intro (And.intro (Nat.le_of_ble_eq_true rfl) (Nat.le_of_ble_eq_true rfl)) ?_ | refine And.intro (And.intro rfl (And.intro rfl (And.intro rfl rfl))) ?_ | refine And.intro (And.intro rfl (And.intro rfl (Nat.le_of_ble_eq_true rfl))) ?_ | refine And.intro (And.intro rfl (And.intro rfl rfl)) ?_ | refine And.intro trivial ?_ | refine CmpW.t rfl ?_ | refine CmpW.f rfl ?_))
        refine CallW.of1 0 (fail_does s a ver) rfl rfl rfl rfl ?_
        rintro ae O ⟨rfl, rfl⟩
        refine ⟨_, rfl, rfl, rfl, ?_⟩
        (repeat (first | refine And.intro rfl ?_ | refine Exists.intro _ (And.intro (wrap_i64 (by first | omega | (simp; done) | (simp; omega)) (by first | omega | (simp; done) | (simp; omega))) ?_) | refine Exists.intro _ (And.intro rfl ?_) | refine And.intro (fun _ => ?_) (fun h => Bool.noConfusion h) | refine And.intro (fun h => Bool.noConfusion h) (fun _ => ?_) | refine And.intro (And.intro (by decide) (by decide)) ?_ | refine And.intro (And.intro (Nat.le_of_ble_eq_true rfl) (Nat.le_of_ble_eq_true rfl)) ?_ | refine And.intro (And.intro rfl (And.intro rfl (And.intro rfl rfl))) ?_ | refine And.intro (And.intro rfl (And.intro rfl (Nat.le_of_ble_eq_true rfl))) ?_ | refine And.intro (And.intro rfl (And.intro rfl rfl)) ?_ | refine And.intro trivial ?_ | refine CmpW.t rfl ?_ | refine CmpW.f rfl ?_))
        refine ⟨by simp, ?_⟩
        simp [grpF, h0, hg]
      · refine CmpW.f (by simp; omega) ?_
        (repeat (first | refine And.intro rfl ?_ | refine Exists.intro _ (And.intro (wrap_i64 (by first | omega | (simp; done) | (simp; omega)) (by first | omega | (simp; done) | (simp; omega))) ?_) | refine Exists.intro _ (And.intro rfl ?_) | refine And.intro (fun _ => ?_) (fun h => Bool.noConfusion h) | refine And.intro (fun h => Bool.noConfusion h) (fun _ => ?_) | refine And.intro (And.intro (by decide) (by decide)) ?_ | refine And.intro (And.intro (Nat.le_of_ble_eq_true rfl) (Nat.le_of_ble_eq_true rfl)) ?_ | refine And.intro (And.intro rfl (And.intro rfl (And.intro rfl rfl))) ?_ | refine And.intro (And.intro rfl (And.intro rfl (Nat.le_of_ble_eq_true rfl))) ?_ | refine And.intro (And.intro rfl (And.intro rfl rfl)) ?_ | refine And.intro trivial ?_ | refine CmpW.t rfl ?_ | refine CmpW.f rfl ?_))
        refine DrawW.lex (by kernel_rfl) (by kernel_rfl) ?_
        (repeat (first | refine And.intro rfl ?_ | refine Exists.intro _ (And.intro (wrap_i64 (by first | omega | (simp; done) | (simp; omega)) (by first | omega | (simp; done) | (simp; omega))) ?_) | refine Exists.intro _ (And.intro rfl ?_) | refine And.intro (fun _ => ?_) (fun h => Bool.noConfusion h) | refine And.intro (fun h => Bool.noConfusion h) (fun _ => ?_) | refine And.intro (And.intro (by decide) (by decide)) ?_ | refine And.intro (And.intro (Nat.le_of_ble_eq_true rfl) (Nat.le_of_ble_eq_true rfl)) ?_ | refine And.intro (And.intro rfl (And.intro rfl (And.intro rfl rfl))) ?_ | refine And.intro (And.intro rfl (And.intro rfl (Nat.le_of_ble_eq_true rfl))) ?_ | refine And.intro (And.intro rfl (And.intro rfl rfl)) ?_ | refine And.intro trivial ?_ | refine CmpW.t rfl ?_ | refine CmpW.f rfl ?_))
        refine And.intro (by simp) ?_
        (repeat (first | refine And.intro rfl ?_ | refine Exists.intro _ (And.intro (wrap_i64 (by first | omega | (simp; done) | (simp; omega)) (by first | omega | (simp; done) | (simp; omega))) ?_) | refine Exists.intro _ (And.intro rfl ?_) | refine And.intro (fun _ => ?_) (fun h => Bool.noConfusion h) | refine And.intro (fun h => Bool.noConfusion h) (fun _ => ?_) | refine And.intro (And.intro (by decide) (by decide)) ?_ | refine And.intro (And.intro (Nat.le_of_ble_eq_true rfl) (Nat.le_of_ble_eq_true rfl)) ?_ | refine And.intro (And.intro rfl (And.intro rfl (And.intro rfl rfl))) ?_ | refine And.intro (And.intro rfl (And.intro rfl (Nat.le_of_ble_eq_true rfl))) ?_ | refine And.intro (And.intro rfl (And.intro rfl rfl)) ?_ | refine And.intro trivial ?_ | refine CmpW.t rfl ?_ | refine CmpW.f rfl ?_))
        have e2 : (d : Int) - (c : Int) = ((d - c : Nat) : Int) := by omega
        rw [e2]
        by_cases hm : d - c = places - d
        · refine CmpW.f (by simp; omega) ?_
          (repeat (first | refine And.intro rfl ?_ | refine Exists.intro _ (And.intro (wrap_i64 (by first | omega | (simp; done) | (simp; omega)) (by first | omega | (simp; done) | (simp; omega))) ?_) | refine Exists.intro _ (And.intro rfl ?_) | refine And.intro (fun _ => ?_) (fun h => Bool.noConfusion h) | refine And.intro (fun h => Bool.noConfusion h) (fun _ => ?_) | refine And.intro (And.intro (by decide) (by decide)) ?_ | refine And.intro (And.intro (Nat.le_of_ble_eq_true rfl) (Nat.le_of_ble_eq_true rfl)) ?_ | refine And.intro (And.intro rfl (And.intro rfl (And.intro rfl rfl))) ?_ | refine And.intro (And.intro rfl (And.intro rfl (Nat.le_of_ble_eq_true rfl))) ?_ | refine And.intro (And.intro rfl (And.intro rfl rfl)) ?_ | refine And.intro trivial ?_ | refine CmpW.t rfl ?_ | refine CmpW.f rfl ?_))
          refine RetW.plain (by simp) ?_
          simp only [grpF, if_neg h0, if_neg hg, if_pos hm]
          exact ⟨trivial, rfl⟩
        · refine CmpW.t (by simp; omega) ?_
          (repeat (first | refine And.intro rfl ?_ | refine Exists.intro _ (And.intro (wrap_i64 (by first | omega | (simp; done) | (simp; omega)) (by first | omega | (simp; done) | (simp; omega))) ?_) | refine Exists.intro _ (And.intro rfl ?_) | refine And.intro (fun _ => ?_) (fun h => Bool.noConfusion h) | refine And.intro (fun h => Bool.noConfusion h) (fun _ => ?_) | refine And.intro (And.intro (by decide) (by decide)) ?_ | refine And.intro (And.intro (Nat.le_of_ble_eq_true rfl) (Nat.le_of_ble_eq_true rfl)) ?_ | refine And.intro (And.intro rfl (And.intro rfl (And.intro rfl rfl))) ?_ | refine And.intro (And.intro rfl (And.intro rfl (Nat.le_of_ble_eq_true rfl))) ?_ | refine And.intro (And.intro rfl (And.intro rfl rfl)) ?_ | refine And.intro trivial ?_ | refine CmpW.t rfl ?_ | refine CmpW.f rfl ?_))
          refine And.intro (by simp) ?_
          (repeat (first | refine And.intro rfl ?_ | refine Exists.intro _ (And.intro (wrap_i64 (by first | omega | (simp; done) | (simp; omega)) (by first | omega | (simp; done) | (simp; omega))) ?_) | refine Exists.intro _ (And.intro rfl ?_) | refine And.intro (fun _ => ?_) (fun h => Bool.noConfusion h) | refine And.intro (fun h => Bool.noConfusion h) (fun _ => ?_) | refine And.intro (And.intro (by decide) (by decide)) ?_ | refine And.intro (And.intro (Nat.le_of_ble_eq_true rfl) (Nat.le_of_ble_eq_true rfl)) ?_ | refine And.intro (And.intro rfl (And.intro rfl (And.intro rfl rfl))) ?_ | refine And.intro (And.intro rfl (And.intro rfl (Nat.le_of_ble_eq_true rfl))) ?_ | refine And.intro (And.intro rfl (And.intro rfl rfl)) ?_ | refine And.intro trivial ?_ | refine CmpW.t rfl ?_ | refine CmpW.f rfl ?_))
          have e2 : (d : Int) - (c : Int) = ((d - c : Nat) : Int) := by omega
          rw [e2]
          (repeat (first | refine And.intro rfl ?_ | refine Exists.intro _ (And.intro (wrap_i64 (by first | omega | (simp; done) | (simp; omega)) (by first | omega | (simp; done) | (simp; omega))) ?_) | refine Exists.intro _ (And.intro rfl ?_) | refine And.intro (fun _ => ?_) (fun h => Bool.noConfusion h) | refine And.intro (fun h => Bool.noConfusion h) (fun _ => ?_) | refine And.intro (And.intro (by decide) (by decide)) ?_ | refine And.intro (And.intro (Nat.le_of_ble_eq_true rfl) (Nat.le_of_ble_eq_true rfl)) ?_ | refine And.intro (And.intro rfl (And.intro rfl (And.intro rfl rfl))) ?_ | refine And.intro (And.intro rfl (And.intro rfl (Nat.le_of_ble_eq_true rfl))) ?_ | refine And.intro (And.intro rfl (And.intro rfl rfl)) ?_ | refine And.intro trivial ?_ | refine CmpW.t rfl ?_ | refine CmpW.f rfl ?_))
          refine RetW.plain (by simp) ?_
          simp only [grpF, if_neg h0, if_neg hg, if_neg hm]
          exact ⟨trivial, rfl⟩
end Go.Proofs.YtjbkhjjaajhjaaaDoor
