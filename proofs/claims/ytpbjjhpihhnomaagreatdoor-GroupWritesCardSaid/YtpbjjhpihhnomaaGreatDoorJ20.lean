/- A table's bytes; what is laid is read again. -/
import Derived.Test.YtpbjjhpihhnomaaGreatDoorJ19
set_option linter.unusedVariables false
set_option linter.unusedSimpArgs false
set_option maxRecDepth 100000
set_option maxHeartbeats 4000000

namespace Go.Proofs.YtpbjjhpihhnomaaGreatDoor
open Go Go.Abs
set_option linter.unusedVariables false
set_option linter.unusedSimpArgs false
def numL : Nat → Nat → List UInt8
  | 0, _ => []
  | k + 1, n => if n ≤ 127 then [UInt8.ofNat n] else UInt8.ofNat (n % 128 + 128) :: numL k (n / 128)
def numW (n : Int) : List UInt8 := numL 10 n.toNat
def textW (s : List UInt8) : List UInt8 := numW s.length ++ s
structure Rd where
  s : List UInt8
  p : Nat
  bad : Bool
def numG : Nat → Rd → Nat → Nat → Nat × Rd
  | 0, r, _, _ => (0, { r with bad := true })
  | k + 1, r, n, sh =>
    match r.s[r.p]? with
    | none => (0, { r with bad := true })
    | some b =>
      if 56 < sh then (0, { r with bad := true })
      else if b.toNat < 128 then
        if b = 0 ∧ 0 < sh then (0, { r with p := r.p + 1, bad := true }) else (n + b.toNat * 2 ^ sh, { r with p := r.p + 1 })
      else numG k { r with p := r.p + 1 } (n + b.toNat % 128 * 2 ^ sh) (sh + 7)
def numRd (r : Rd) : Nat × Rd := if r.bad then (0, r) else numG 10 r 0 0
def textRd (r : Rd) : List UInt8 × Rd :=
  let x := numRd r
  if x.2.bad = true ∨ x.2.s.length - x.2.p < x.1 then ([], { x.2 with bad := true })
  else ((x.2.s.drop x.2.p).take x.1, { x.2 with p := x.2.p + x.1 })
def countRd (most : Nat) (r : Rd) : Nat × Rd :=
  let x := numRd r
  if most < x.1 then (0, { x.2 with bad := true }) else x
def RdAt (r : Rd) (l : List UInt8) : Prop := r.bad = false ∧ r.p ≤ r.s.length ∧ r.s.drop r.p = l
def Rds {α : Type} (f : Rd → α × Rd) (w : List UInt8) (a : α) : Prop :=
  ∀ r post, RdAt r (w ++ post) → (f r).1 = a ∧ RdAt (f r).2 post ∧ (f r).2.s = r.s
def rtn {α : Type} (a : α) : Rd → α × Rd := fun r => (a, r)
def bnd {α β : Type} (f : Rd → α × Rd) (g : α → Rd → β × Rd) : Rd → β × Rd := fun r => g (f r).1 (f r).2
def listG {α : Type} (one : Rd → α × Rd) : Nat → Rd → List α × Rd
  | 0, r => ([], r)
  | n + 1, r => if r.bad then ([], r) else ((one r).1 :: (listG one n (one r).2).1, (listG one n (one r).2).2)
def listRd {α : Type} (one : Rd → α × Rd) (r : Rd) : List α × Rd := listG one (countRd 65536 r).1 (countRd 65536 r).2
def listW {α : Type} (w : α → List UInt8) (l : List α) : List UInt8 := numW l.length ++ l.flatMap w
end Go.Proofs.YtpbjjhpihhnomaaGreatDoor

namespace Go.Proofs.YtpbjjhpihhnomaaGreatDoor
open Go Go.Abs
set_option linter.unusedVariables false
set_option linter.unusedSimpArgs false
def errMany : Int := 4
def errForm : Int := 1
def txtW (x : TTxt) : List UInt8 := numW x.cat ++ textW x.text
def txtRd : Rd → TTxt × Rd := bnd numRd fun c => bnd textRd fun s => rtn ⟨(c : Int), s⟩
def rowW (x : TRow) : List UInt8 := numW x.mag ++ listW txtW x.texts
def rowRd : Rd → TRow × Rd := bnd numRd fun m => bnd (listRd txtRd) fun l => rtn ⟨(m : Int), l⟩
def untW (x : TUnt) : List UInt8 := textW x.name ++ listW txtW x.texts
def untRd : Rd → TUnt × Rd := bnd textRd fun m => bnd (listRd txtRd) fun l => rtn ⟨m, l⟩
def curW (x : TCur) : List UInt8 := textW x.code ++ (textW x.symbol ++ (textW x.narrow ++ (listW txtW x.names ++ (numW x.digits ++ (numW x.inc ++ (numW x.cashDigits ++ numW x.cashInc))))))
def curRd : Rd → TCur × Rd := bnd textRd fun a => bnd textRd fun b => bnd textRd fun c => bnd (listRd txtRd) fun n => bnd numRd fun d => bnd numRd fun e => bnd numRd fun f => bnd numRd fun g => rtn ⟨a, b, c, n, (d : Int), (e : Int), (f : Int), (g : Int)⟩
def encF (t : TTab) : List UInt8 := textW t.dg.d0 ++ (textW t.dg.d1 ++ (textW t.dg.d2 ++ (textW t.dg.d3 ++ (textW t.dg.d4 ++ (textW t.dg.d5 ++ (textW t.dg.d6 ++ (textW t.dg.d7 ++ (textW t.dg.d8 ++ (textW t.dg.d9 ++ (textW t.minus ++ (textW t.plus ++ (textW t.percent ++ (textW t.permille ++ (textW t.point ++ (textW t.comma ++ (textW t.decimal ++ (textW t.per ++ (textW t.money ++ (textW t.account ++ (textW t.rules ++ (textW t.before.cur ++ (textW t.before.num ++ (textW t.before.ins ++ (textW t.after.cur ++ (textW t.after.num ++ (textW t.after.ins ++ (numW t.minGroup ++ (listW rowW t.short ++ (listW rowW t.long ++ (listW rowW t.mshort ++ (listW curW t.curs ++ (listW untW t.units ++ (listW txtW t.munit)))))))))))))))))))))))))))))))))
def tabRd : Rd → TTab × Rd := bnd textRd fun xdg_d0 => bnd textRd fun xdg_d1 => bnd textRd fun xdg_d2 => bnd textRd fun xdg_d3 => bnd textRd fun xdg_d4 => bnd textRd fun xdg_d5 => bnd textRd fun xdg_d6 => bnd textRd fun xdg_d7 => bnd textRd fun xdg_d8 => bnd textRd fun xdg_d9 => bnd textRd fun xminus => bnd textRd fun xplus => bnd textRd fun xpercent => bnd textRd fun xpermille => bnd textRd fun xpoint => bnd textRd fun xcomma => bnd textRd fun xdecimal => bnd textRd fun xper => bnd textRd fun xmoney => bnd textRd fun xaccount => bnd textRd fun xrules => bnd textRd fun xbefore_cur => bnd textRd fun xbefore_num => bnd textRd fun xbefore_ins => bnd textRd fun xafter_cur => bnd textRd fun xafter_num => bnd textRd fun xafter_ins => bnd numRd fun mg => bnd (listRd rowRd) fun sh => bnd (listRd rowRd) fun lo => bnd (listRd rowRd) fun ms => bnd (listRd curRd) fun cu => bnd (listRd untRd) fun un => bnd (listRd txtRd) fun mu => rtn ⟨⟨xdg_d0, xdg_d1, xdg_d2, xdg_d3, xdg_d4, xdg_d5, xdg_d6, xdg_d7, xdg_d8, xdg_d9⟩, xminus, xplus, xpercent, xpermille, xpoint, xcomma, (mg : Int), xdecimal, xper, xmoney, xaccount, xrules, sh, lo, ms, cu, un, mu, ⟨xbefore_cur, xbefore_num, xbefore_ins⟩, ⟨xafter_cur, xafter_num, xafter_ins⟩⟩
def tab0 : TTab := ⟨⟨[], [], [], [], [], [], [], [], [], []⟩, [], [], [], [], [], [], 0, [], [], [], [], [], [], [], [], [], [], [], ⟨[], [], []⟩, ⟨[], [], []⟩⟩
def decF (s : List UInt8) : TTab × Int :=
  if 65536 < s.length then (tab0, errMany)
  else if (tabRd ⟨s, 0, false⟩).2.bad = true ∨ (tabRd ⟨s, 0, false⟩).2.p ≠ s.length then (tab0, errForm) else ((tabRd ⟨s, 0, false⟩).1, 0)
def posN (n : Int) : Prop := 0 ≤ n ∧ n < 2 ^ 63
def posT (l : List TTxt) : Prop := ∀ x ∈ l, posN x.cat
def posR (l : List TRow) : Prop := ∀ x ∈ l, posN x.mag ∧ posT x.texts
def TTab.pos (t : TTab) : Prop := posN t.minGroup ∧ posR t.short ∧ posR t.long ∧ posR t.mshort ∧ posT t.munit ∧
  (∀ c ∈ t.curs, posT c.names ∧ posN c.digits ∧ posN c.inc ∧ posN c.cashDigits ∧ posN c.cashInc) ∧ ∀ u ∈ t.units, posT u.texts
theorem len_numW (n : Int) : 1 ≤ (numW n).length := by
  rw [numW, numL]
  split <;> simp
theorem len_numL : ∀ (k n : Nat), (numL k n).length ≤ k
  | 0, _ => by simp [numL]
  | k + 1, n => by
    rw [numL]
    split
    · simp
    · simpa using len_numL k _
theorem len_flat {α : Type} {w : α → List UInt8} (hw : ∀ x, 1 ≤ (w x).length) : ∀ l : List α, l.length ≤ (l.flatMap w).length
  | [] => by simp
  | x :: l => by
    have := len_flat hw l
    have := hw x
    simp only [List.flatMap_cons, List.length_append, List.length_cons]
    omega
theorem txtW_pos (x : TTxt) : 1 ≤ (txtW x).length := by have := len_numW x.cat; rw [txtW, List.length_append]; omega
theorem rowW_pos (x : TRow) : 1 ≤ (rowW x).length := by have := len_numW x.mag; rw [rowW, List.length_append]; omega
theorem textW_pos (s : List UInt8) : 1 ≤ (textW s).length := by have := len_numW s.length; rw [textW, List.length_append]; omega
theorem untW_pos (x : TUnt) : 1 ≤ (untW x).length := by have := textW_pos x.name; rw [untW, List.length_append]; omega
theorem curW_pos (x : TCur) : 1 ≤ (curW x).length := by have := textW_pos x.code; rw [curW, List.length_append]; omega
section
attribute [local irreducible] Rds bnd rtn textRd numRd textW numW listRd listW
end
end Go.Proofs.YtpbjjhpihhnomaaGreatDoor
