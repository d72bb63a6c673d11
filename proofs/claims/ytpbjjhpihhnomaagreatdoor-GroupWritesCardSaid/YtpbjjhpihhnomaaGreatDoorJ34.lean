/- What a table that is well formed has: names that rise, texts of each category. -/
import Derived.Test.YtpbjjhpihhnomaaGreatDoorJ20
import Derived.Test.YtpbjjhpihhnomaaGreatDoorJ31
import Derived.Test.YtpbjjhpihhnomaaGreatDoorJ28
import Derived.Test.YtpbjjhpihhnomaaGreatDoorJ32
import Derived.Test.YtpbjjhpihhnomaaGreatDoorJ33
import Derived.Test.YtpbjjhpihhnomaaGreatDoorJ26
set_option linter.unusedVariables false
set_option linter.unusedSimpArgs false
set_option maxRecDepth 100000
set_option maxHeartbeats 4000000

namespace Go.Proofs.YtpbjjhpihhnomaaGreatDoor
open Go Go.Abs
set_option linter.unusedVariables false
set_option linter.unusedSimpArgs false
def sumB {α : Type} (f : α → Nat) (l : List α) : Nat := (l.map f).sum
@[simp] theorem sumB_nil {α : Type} (f : α → Nat) : sumB f [] = 0 := rfl
@[simp] theorem sumB_cons {α : Type} (f : α → Nat) (x : α) (l : List α) : sumB f (x :: l) = f x + sumB f l := by simp [sumB]
@[simp] theorem sumB_append {α : Type} (f : α → Nat) (l m : List α) : sumB f (l ++ m) = sumB f l + sumB f m := by simp [sumB]
end Go.Proofs.YtpbjjhpihhnomaaGreatDoor

namespace Go.Proofs.YtpbjjhpihhnomaaGreatDoor
open Go Go.Abs
set_option linter.unusedVariables false
set_option linter.unusedSimpArgs false
end Go.Proofs.YtpbjjhpihhnomaaGreatDoor

namespace Go.Proofs.YtpbjjhpihhnomaaGreatDoor
open Go Go.Abs
set_option linter.unusedVariables false
set_option linter.unusedSimpArgs false
def lstV : AV → List (List AV)
  | .fsl es => es
  | _ => []
def pdV (v : PatV) : PD := ⟨lstV (affV v).a, lstV (affV v).b, lstV (affV v).c, lstV (affV v).d, v.two, v.N⟩
def patP (s : List UInt8) : PD := match parE s with
  | .ok v => pdV v
  | .error _ => pd0
def cpaP (s : List UInt8) : CD := match cpaE s with
  | .ok v => ⟨v.N.mi, noopF v, pdV v⟩
  | .error _ => cd0
def brzP (n : Int) (s : List UInt8) : List (List AV) × List (List AV) := match braF s n with
  | .ok (ts, ps) => (strEs ts, natEs ps)
  | .error _ => ([], [])
def clsP (s : List UInt8) : List (List AV) := match clsF s with
  | .ok c => rgEs c
  | .error _ => []
def cpaB (l : List TTxt) : BC CD := byC cd0 cpaP l
def brzB (n : Int) (l : List TTxt) : BC (List (List AV) × List (List AV)) := byC ([], []) (brzP n) l
def strB (l : List TTxt) : BC (List UInt8) := byC [] id l
def shiftC (q : CD) (mag : Int) : Int := if q.nb then 0 else IntKind.i64.wrap (IntKind.i64.wrap (mag - q.z) + 1)
def lrE (r : TRow) : List AV := [.int .i64 r.mag, .int .i64 (shiftC (getC (cpaB r.texts) 5) r.mag), .bool (getC (cpaB r.texts) 5).nb, .fptr (bcC CD.cells (cpaB r.texts))]
def lrL (l : List TRow) : AV := .fsl (l.map lrE)
def lspC (x : TSpc) : List AV := [.fsl (clsP x.cur), .fsl (clsP x.num), .str x.ins]
def unitV (u : TUnt) : AV := .fptr (bcC encB (brzB 1 u.texts))
def curV (c : TCur) : AV := .fptr (bcC encS1 (strB c.names))
def locC (o t : TTab) : List AV :=
  tabC o ++ (patP t.decimal).cells ++ (patP t.per).cells ++ (patP t.money).cells ++ (patP t.account).cells ++ [.fsl ((rulP t.rules).1.map encRul), lrL t.short, lrL t.long, lrL t.mshort] ++ lspC t.before ++ lspC t.after ++
  [.fmap (mapG (·.name) unitV [] t.units), .fmap (mapG (·.code) curV [] (t.curs.filter fun c => decide (c.names ≠ []))), .fptr (bcC encB (brzB 2 t.munit))]
def newF (t : TTab) : AV := if checkF t = 0 then .tuple [.fptr (locC (decF (encF t)).1 t), .int .i64 0] else .tuple [.nilp, .int .i64 5]
end Go.Proofs.YtpbjjhpihhnomaaGreatDoor

namespace Go.Proofs.YtpbjjhpihhnomaaGreatDoor
open Go Go.Abs
set_option linter.unusedVariables false
set_option linter.unusedSimpArgs false
end Go.Proofs.YtpbjjhpihhnomaaGreatDoor
