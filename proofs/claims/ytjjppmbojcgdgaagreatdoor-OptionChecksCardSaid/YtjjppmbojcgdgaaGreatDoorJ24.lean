/- Has a table few things? -/
import Derived.Test.YtjjppmbojcgdgaaGreatDoorJ07
import Derived.Test.YtjjppmbojcgdgaaGreatDoorJ23
import Derived.Test.YtjjppmbojcgdgaaGreatDoorJ18
set_option linter.unusedVariables false
set_option linter.unusedSimpArgs false
set_option maxRecDepth 100000
set_option maxHeartbeats 4000000

namespace Go.Proofs.YtjjppmbojcgdgaaGreatDoor
open Go Go.Abs
set_option linter.unusedVariables false
set_option linter.unusedSimpArgs false
structure BC (α : Type) where
  l0 : α
  l1 : α
  l2 : α
  l3 : α
  l4 : α
  l5 : α
  h0 : Bool
  h1 : Bool
  h2 : Bool
  h3 : Bool
  h4 : Bool
  h5 : Bool
def bc0 {α : Type} (z : α) : BC α := ⟨z, z, z, z, z, z, false, false, false, false, false, false⟩
def putN {α : Type} (b : BC α) (c : Nat) (v : α) : BC α := match c with
  | 0 => { b with l0 := v, h0 := true }
  | 1 => { b with l1 := v, h1 := true }
  | 2 => { b with l2 := v, h2 := true }
  | 3 => { b with l3 := v, h3 := true }
  | 4 => { b with l4 := v, h4 := true }
  | 5 => { b with l5 := v, h5 := true }
  | _ => b
def putC {α : Type} (b : BC α) (c : Int) (v : α) : BC α := if 0 ≤ c ∧ c ≤ 5 then putN b c.toNat v else b
def atN {α : Type} (b : BC α) (c : Nat) : α := match c with
  | 0 => b.l0
  | 1 => b.l1
  | 2 => b.l2
  | 3 => b.l3
  | 4 => b.l4
  | _ => b.l5
def hasN {α : Type} (b : BC α) (c : Nat) : Bool := match c with
  | 0 => b.h0
  | 1 => b.h1
  | 2 => b.h2
  | 3 => b.h3
  | 4 => b.h4
  | 5 => b.h5
  | _ => false
def hasC {α : Type} (b : BC α) (c : Int) : Bool := decide (0 ≤ c ∧ c ≤ 5) && hasN b c.toNat
def getC {α : Type} (b : BC α) (c : Int) : α := if hasC b c = true then atN b c.toNat else b.l5
def byG {α : Type} (read : List UInt8 → α) : BC α → List TTxt → BC α
  | b, [] => b
  | b, x :: l => byG read (putC b x.cat (read x.text)) l
def byC {α : Type} (z : α) (read : List UInt8 → α) (l : List TTxt) : BC α := byG read (bc0 z) l
def txtG (c : Int) : List UInt8 → List TTxt → List UInt8
  | out, [] => out
  | out, x :: l => txtG c (if x.cat = c then x.text else out) l
def txtF (l : List TTxt) (c : Int) : List UInt8 := txtG c (txtG 5 [] l) l
theorem putN_at {α : Type} (b : BC α) (c d : Nat) (v : α) (hc : c < 6) (hd : d < 6) : atN (putN b c v) d = if c = d then v else atN b d := by
  have : c = 0 ∨ c = 1 ∨ c = 2 ∨ c = 3 ∨ c = 4 ∨ c = 5 := by omega
  have : d = 0 ∨ d = 1 ∨ d = 2 ∨ d = 3 ∨ d = 4 ∨ d = 5 := by omega
  rcases ‹c = 0 ∨ _› with rfl | rfl | rfl | rfl | rfl | rfl <;> rcases ‹d = 0 ∨ _› with rfl | rfl | rfl | rfl | rfl | rfl <;> rfl
theorem putN_has {α : Type} (b : BC α) (c d : Nat) (v : α) (hc : c < 6) (hd : d < 6) : hasN (putN b c v) d = (decide (c = d) || hasN b d) := by
  have : c = 0 ∨ c = 1 ∨ c = 2 ∨ c = 3 ∨ c = 4 ∨ c = 5 := by omega
  have : d = 0 ∨ d = 1 ∨ d = 2 ∨ d = 3 ∨ d = 4 ∨ d = 5 := by omega
  rcases ‹c = 0 ∨ _› with rfl | rfl | rfl | rfl | rfl | rfl <;> rcases ‹d = 0 ∨ _› with rfl | rfl | rfl | rfl | rfl | rfl <;> rfl
theorem byG_at {α : Type} (read : List UInt8 → α) (d : Nat) (hd : d < 6) : ∀ (l : List TTxt) (b : BC α) (s : List UInt8), (∀ x ∈ l, 0 ≤ x.cat ∧ x.cat ≤ 5) →
    (hasN b d = true → atN b d = read s) →
    (hasN (byG read b l) d = (hasN b d || l.any fun x => decide (x.cat = (d : Int)))) ∧ (hasN (byG read b l) d = true → atN (byG read b l) d = read (txtG d s l))
  | [], b, s, _, h => by simpa [byG, txtG] using h
  | x :: l, b, s, hl, h => by
    have hx := hl x (by simp)
    have hc : x.cat.toNat < 6 := by omega
    have hp : putC b x.cat (read x.text) = putN b x.cat.toNat (read x.text) := by rw [putC, if_pos hx]
    have hi : (x.cat.toNat = d) ↔ (x.cat = (d : Int)) := by omega
    have ih := byG_at read d hd l (putC b x.cat (read x.text)) (if x.cat = (d : Int) then x.text else s) (fun y hy => hl y (by simp [hy])) (by
      rw [hp, putN_has _ _ _ _ hc hd, putN_at _ _ _ _ hc hd]
      intro h1
      by_cases h2 : x.cat = (d : Int)
      · simp [h2]
      · have h3 : ¬ x.cat.toNat = d := fun h4 => h2 (hi.1 h4)
        simp only [h2, h3, if_false]
        exact h (by simpa [h3] using h1))
    rw [byG, txtG]
    refine ⟨?_, ih.2⟩
    rw [ih.1, hp, putN_has _ _ _ _ hc hd, List.any_cons]
    have : decide (x.cat.toNat = d) = decide (x.cat = (d : Int)) := by simp only [hi]
    rw [this]
    cases decide (x.cat = (d : Int)) <;> cases hasN b d <;> rfl
theorem txtG_none {c : Int} : ∀ (l : List TTxt) (s : List UInt8), (l.any fun x => decide (x.cat = c)) = false → txtG c s l = s
  | [], s, _ => rfl
  | x :: l, s, h => by
    rw [List.any_cons, Bool.or_eq_false_iff] at h
    have h1 : ¬ x.cat = c := by simpa using h.1
    rw [txtG, if_neg h1]
    exact txtG_none l s h.2
theorem byC_get {α : Type} (z : α) (read : List UInt8 → α) {l : List TTxt} (hl : ∀ x ∈ l, 0 ≤ x.cat ∧ x.cat ≤ 5) (ho : (l.any fun x => decide (x.cat = 5)) = true) (c : Int) :
    getC (byC z read l) c = read (txtF l c) := by
  obtain ⟨a1, a2⟩ := byG_at read 5 (by decide) l (bc0 z) [] hl (fun h => by cases h)
  have e5 : (byC z read l).l5 = read (txtG 5 [] l) := a2 (by rw [a1]; exact (congrArg (hasN (bc0 z) 5 || ·) ho).trans (Bool.or_true _))
  rw [getC, txtF]
  by_cases h : 0 ≤ c ∧ c ≤ 5
  · obtain ⟨d, rfl⟩ : ∃ d : Nat, c = (d : Int) := ⟨c.toNat, by omega⟩
    have hd : d < 6 := by omega
    have hn : hasC (byC z read l) (d : Int) = hasN (byC z read l) d := by simp [hasC]; omega
    have hat : atN (byC z read l) (d : Int).toNat = atN (byC z read l) d := by simp
    rw [hn, hat]
    obtain ⟨b1, b2⟩ := byG_at read d hd l (bc0 z) (txtG 5 [] l) hl (fun h => by
      have : d = 0 ∨ d = 1 ∨ d = 2 ∨ d = 3 ∨ d = 4 ∨ d = 5 := by omega
      rcases this with rfl | rfl | rfl | rfl | rfl | rfl <;> cases h)
    by_cases h2 : hasN (byC z read l) d = true
    · rw [if_pos h2]; exact b2 h2
    · rw [if_neg h2, e5]
      have h3 : hasN (byC z read l) d = false := by simpa using h2
      rw [byC, b1, Bool.or_eq_false_iff] at h3
      rw [txtG_none l _ h3.2]
  · have hn : hasC (byC z read l) c = false := by simp [hasC]; omega
    rw [hn, e5]
    have : (l.any fun x => decide (x.cat = c)) = false := by
      rw [List.any_eq_false]
      intro x hx
      have := hl x hx
      simp only [decide_eq_true_eq]
      omega
    rw [txtG_none l _ this]
    rfl
end Go.Proofs.YtjjppmbojcgdgaaGreatDoor

namespace Go.Proofs.YtjjppmbojcgdgaaGreatDoor
open Go Go.Abs
attribute [local irreducible] DrawW CallW RetW AC Does CmpW
variable {G : Globs}
def txtWide (l : List TTxt) : Prop := l.length ≤ 140737488355328 ∧ ∀ x ∈ l, x.text.length ≤ 140737488355328
def rowWide (l : List TRow) : Prop := l.length ≤ 140737488355328 ∧ ∀ r ∈ l, txtWide r.texts
end Go.Proofs.YtjjppmbojcgdgaaGreatDoor

namespace Go.Proofs.YtjjppmbojcgdgaaGreatDoor
open Go Go.Abs
attribute [local irreducible] DrawW CallW RetW AC Does CmpW
variable {G : Globs}
def TTab.strs (t : TTab) : List (List UInt8) := [t.minus, t.plus, t.percent, t.permille, t.point, t.comma, t.decimal, t.per, t.money, t.account, t.before.cur, t.before.num, t.before.ins, t.after.cur, t.after.num, t.after.ins]
structure TTab.wide (t : TTab) : Prop where
  dg : ∀ x ∈ t.dg.list, x.length ≤ 140737488355328
  strs : ∀ x ∈ t.strs, x.length ≤ 140737488355328
  rules : t.rules.length ≤ 140737488355328
  short : rowWide t.short
  long : rowWide t.long
  mshort : rowWide t.mshort
  curs : t.curs.length ≤ 140737488355328 ∧ ∀ c ∈ t.curs, c.code.length ≤ 140737488355328 ∧ c.symbol.length ≤ 140737488355328 ∧ c.narrow.length ≤ 140737488355328 ∧ txtWide c.names
  units : t.units.length ≤ 140737488355328 ∧ ∀ u ∈ t.units, u.name.length ≤ 140737488355328 ∧ txtWide u.texts
  munit : txtWide t.munit
end Go.Proofs.YtjjppmbojcgdgaaGreatDoor
