/- Has a table few things? -/
import Derived.Test.YtpbjjhpihhnomaaGreatDoorJ28
import Derived.Test.YtpbjjhpihhnomaaGreatDoorJ22
set_option linter.unusedVariables false
set_option linter.unusedSimpArgs false
set_option maxRecDepth 100000
set_option maxHeartbeats 4000000

namespace Go.Proofs.YtpbjjhpihhnomaaGreatDoor
open Go Go.Abs
attribute [local irreducible] DrawW CallW RetW AC Does CmpW
variable {G : Globs}
def txtWide (l : List TTxt) : Prop := l.length ≤ 140737488355328 ∧ ∀ x ∈ l, x.text.length ≤ 140737488355328
def rowWide (l : List TRow) : Prop := l.length ≤ 140737488355328 ∧ ∀ r ∈ l, txtWide r.texts
end Go.Proofs.YtpbjjhpihhnomaaGreatDoor

namespace Go.Proofs.YtpbjjhpihhnomaaGreatDoor
open Go Go.Abs
attribute [local irreducible] DrawW CallW RetW AC Does CmpW
variable {G : Globs}
def TTab.strs (t : TTab) : List (List UInt8) := [t.minus, t.plus, t.percent, t.permille, t.point, t.comma, t.decimal, t.per, t.money, t.account, t.before.cur, t.before.num, t.before.ins, t.after.cur, t.after.num, t.after.ins]
structure TTab.wide (t : TTab) : Prop where
  dg : ∀ x ∈ t.dg.list, x.length ≤ 140737488355328
  strs : ∀ x ∈ t.strs, x.length ≤ 140737488355328
  rules : t.rules.length ≤ 140737488355328
  short : rowWide t.short
  long : rowWide t.long
  mshort : rowWide t.mshort
  curs : t.curs.length ≤ 140737488355328 ∧ ∀ c ∈ t.curs, c.code.length ≤ 140737488355328 ∧ c.symbol.length ≤ 140737488355328 ∧ c.narrow.length ≤ 140737488355328 ∧ txtWide c.names
  units : t.units.length ≤ 140737488355328 ∧ ∀ u ∈ t.units, u.name.length ≤ 140737488355328 ∧ txtWide u.texts
  munit : txtWide t.munit
end Go.Proofs.YtpbjjhpihhnomaaGreatDoor
