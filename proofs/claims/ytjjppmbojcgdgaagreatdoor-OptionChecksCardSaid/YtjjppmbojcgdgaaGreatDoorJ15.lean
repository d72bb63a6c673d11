/- What numbers and texts that are handed read as. -/
import Derived.Test.YtjjppmbojcgdgaaGreatDoorJ07
import Derived.Test.YtjjppmbojcgdgaaGreatDoorJ01
import Derived.Test.YtjjppmbojcgdgaaGreatDoorJ13
import Derived.Test.YtjjppmbojcgdgaaGreatDoorRows
import Derived.ProofKit
set_option linter.unusedVariables false
set_option linter.unusedSimpArgs false
set_option maxRecDepth 100000
set_option maxHeartbeats 4000000

namespace Go.Proofs.YtjjppmbojcgdgaaGreatDoor
open Go Go.Abs
attribute [local irreducible] DrawW CallW RetW AC Does CmpW
variable {G : Globs}
def oneT (s : List UInt8) : List TTxt := [⟨5, s⟩]
def twoT (s t : List UInt8) : List TTxt := [⟨1, s⟩, ⟨5, t⟩]
theorem One_does (s : List UInt8) : Does Tryz.prog G 63 [.str s] [] fun ae _ => ae = .ret (txtL (oneT s)) := by
  refine Does.body tab Tryz.func63 rfl rfl ?_
  (repeat (first | refine gof ?_ | refine fun (vv : Nat) => ?_))
  refine RetW.wk (r' := txtL (oneT s)) (by simp) ?_ (Wk.row (k := 0) (i := 0) (o := ⟨vv, 145, 2, [[.int .i64 5, .str s]]⟩) rfl rfl rfl rfl) ?_ <;> rfl
theorem Two_does (s t : List UInt8) : Does Tryz.prog G 65 [.str s, .str t] [] fun ae _ => ae = .ret (txtL (twoT s t)) := by
  refine Does.body tab Tryz.func65 rfl rfl ?_
  (repeat (first | refine gof ?_ | refine fun (vv : Nat) => ?_))
  refine RetW.wk (r' := txtL (twoT s t)) (by simp) ?_ (Wk.row (k := 0) (i := 0) (o := ⟨vv, 145, 2, [[.int .i64 1, .str s], [.int .i64 5, .str t]]⟩) rfl rfl rfl rfl) ?_ <;> rfl
def plainD : TDig := ⟨[48], [49], [50], [51], [52], [53], [54], [55], [56], [57]⟩
theorem Plain_does : Does Tryz.prog G 64 [] [] fun ae _ => ae = .ret (.agg plainD.cells) := by
  refine Does.bodyA tab Tryz.func64 rfl rfl ?_
  refine AC.step tab ?_
  refine gos ?_
  intro v0
  refine gos ?_
  refine AC.step tab ?_
  refine gos ?_
  intro v1
  refine gos ?_
  refine AC.cutF tab (fun e h => e = [.ptr 0 v0 0 0, .ptr 1 v1 0 0] ++ List.replicate 12 .any ∧ h = [some ⟨v0, 57, 10, [[.str [], .str [], .str [], .str [], .str [], .str [], .str [], .str [], .str [], .str []]]⟩, some ⟨v1, 57, 10, [plainD.cells]⟩]) ?_ ?_
  · refine gos ?_
    refine AC.rounds tab 11 ?_
    refine gos ?_
    exact ⟨_, 2, fgts, rfl, rfl⟩
  rintro e h ⟨rfl, rfl⟩
  refine AC.go tab ?_
  refine gos ?_
  refine RetW.plain (by simp) ?_
  rfl
end Go.Proofs.YtjjppmbojcgdgaaGreatDoor

namespace Go.Proofs.YtjjppmbojcgdgaaGreatDoor
open Go Go.Abs
set_option linter.unusedVariables false
set_option linter.unusedSimpArgs false
theorem ofI63 {a : Nat} (ha : a < 9223372036854775808) : (BitVec.ofInt 64 (a : Int)).toNat = a := by
  rw [BitVec.ofInt_natCast, BitVec.toNat_ofNat]; exact Nat.mod_eq_of_lt (by omega)
theorem wrapN {a : Nat} (ha : a < 9223372036854775808) : IntKind.i64.wrap (a : Int) = (a : Int) := by
  unfold IntKind.wrap
  simp only [IntKind.bits, IntKind.signed]
  simp
  omega
theorem andN {a b : Nat} (ha : a < 9223372036854775808) (hb : b < 9223372036854775808) : IntKind.i64.wrap (BitVec.ofInt IntKind.i64.bits (a : Int) &&& BitVec.ofInt IntKind.i64.bits (b : Int)).toNat = ((a &&& b : Nat) : Int) := by
  have hx : a &&& b ≤ b := Nat.and_le_right
  show IntKind.i64.wrap (((BitVec.ofInt 64 (a : Int) &&& BitVec.ofInt 64 (b : Int)).toNat : Nat) : Int) = _
  rw [BitVec.toNat_and, ofI63 ha, ofI63 hb, wrapN (by omega)]
theorem orN {a b : Nat} (ha : a < 9223372036854775808) (hb : b < 9223372036854775808) : IntKind.i64.wrap (BitVec.ofInt IntKind.i64.bits (a : Int) ||| BitVec.ofInt IntKind.i64.bits (b : Int)).toNat = ((a ||| b : Nat) : Int) := by
  have hx : a ||| b < 2 ^ 63 := Nat.or_lt_two_pow (by omega) (by omega)
  show IntKind.i64.wrap (((BitVec.ofInt 64 (a : Int) ||| BitVec.ofInt 64 (b : Int)).toNat : Nat) : Int) = _
  rw [BitVec.toNat_or, ofI63 ha, ofI63 hb, wrapN (by omega)]
theorem and127 {n : Nat} (hn : n < 9223372036854775808) : IntKind.i64.wrap (BitVec.ofInt IntKind.i64.bits (n : Int) &&& BitVec.ofInt IntKind.i64.bits 127).toNat = ((n % 128 : Nat) : Int) := by
  have h := andN hn (b := 127) (by decide)
  have h2 : n &&& 127 = n % 128 := Nat.and_two_pow_sub_one_eq_mod n 7
  rw [h2] at h
  exact h
theorem or128 {n : Nat} (hn : n < 128) : IntKind.i64.wrap (BitVec.ofInt IntKind.i64.bits (n : Int) ||| BitVec.ofInt IntKind.i64.bits 128).toNat = ((n + 128 : Nat) : Int) := by
  have h := orN (a := n) (b := 128) (by omega) (by decide)
  have h2 : n ||| 128 = n + 128 := by
    have := Nat.two_pow_add_eq_or_of_lt (i := 7) (b := n) (by omega) 1
    rw [Nat.or_comm, show (128 : Nat) = 2 ^ 7 * 1 by rfl, ← this]
    omega
  rw [h2] at h
  exact h
theorem byte_of {n : Nat} (hn : n < 256) : IntKind.u8.wrap (n : Int) = ((UInt8.ofNat n).toNat : Int) := by
  rw [UInt8.toNat_ofNat']
  unfold IntKind.wrap
  simp only [IntKind.bits, IntKind.signed]
  simp
theorem u8and127 (b : UInt8) : IntKind.u8.wrap (BitVec.ofInt IntKind.u8.bits (b.toNat : Int) &&& BitVec.ofInt IntKind.u8.bits 127).toNat = ((b.toNat % 128 : Nat) : Int) := by
  have : ∀ u : Fin 256, IntKind.u8.wrap (BitVec.ofInt IntKind.u8.bits (u.val : Int) &&& BitVec.ofInt IntKind.u8.bits 127).toNat = ((u.val % 128 : Nat) : Int) := by decide +kernel
  exact this ⟨b.toNat, b.toNat_lt⟩
theorem pow56 {sh : Nat} (h : sh ≤ 56) : 2 ^ sh ≤ 72057594037927936 := Nat.pow_le_pow_right (by decide) h
theorem shl7 {x sh : Nat} (hx : x < 128) (hs : sh ≤ 56) : IntKind.i64.wrap ((x : Int) * 2 ^ (min ((sh : Nat) : Int).toNat IntKind.i64.bits)) = ((x * 2 ^ sh : Nat) : Int) := by
  have hb : IntKind.i64.bits = 64 := rfl
  have h1 := pow56 hs
  have h2 : x * 2 ^ sh ≤ 127 * 72057594037927936 := Nat.mul_le_mul (by omega) h1
  rw [hb, Int.toNat_natCast, Nat.min_eq_left (by omega), show ((2 : Int) ^ sh) = ((2 ^ sh : Nat) : Int) by push_cast; rfl, ← Int.natCast_mul, wrapN (by omega)]
theorem or_add {n x sh : Nat} (hn : n < 2 ^ sh) (hx : x < 128) (hs : sh ≤ 56) : IntKind.i64.wrap (BitVec.ofInt IntKind.i64.bits (n : Int) ||| BitVec.ofInt IntKind.i64.bits ((x * 2 ^ sh : Nat) : Int)).toNat = ((n + x * 2 ^ sh : Nat) : Int) := by
  have h1 := pow56 hs
  have h2 : x * 2 ^ sh ≤ 127 * 72057594037927936 := Nat.mul_le_mul (by omega) h1
  rw [orN (by omega) (by omega)]
  have := Nat.two_pow_add_eq_or_of_lt hn x
  rw [Nat.or_comm, Nat.mul_comm x, ← this, Nat.add_comm]
theorem acc_lt {n x sh : Nat} (hn : n < 2 ^ sh) (hx : x < 128) : n + x * 2 ^ sh < 2 ^ (sh + 7) := by
  rw [Nat.pow_add]
  have : x * 2 ^ sh ≤ 127 * 2 ^ sh := Nat.mul_le_mul_right _ (by omega)
  omega
end Go.Proofs.YtjjppmbojcgdgaaGreatDoor

namespace Go.Proofs.YtjjppmbojcgdgaaGreatDoor
open Go Go.Abs
def belN (n : Int) : Bool := decide (n < 9223372036854775808)
def belT (l : List TTxt) : Bool := l.all fun x => belN x.cat
def belR (l : List TRow) : Bool := l.all fun x => belN x.mag && belT x.texts
def belC (c : TCur) : Bool := belT c.names && (belN c.digits && (belN c.inc && (belN c.cashDigits && belN c.cashInc)))
def TTab.below (t : TTab) : Bool := belN t.minGroup && (belR t.short && (belR t.long && (belR t.mshort && (belT t.munit && (t.curs.all belC && t.units.all fun u => belT u.texts)))))
end Go.Proofs.YtjjppmbojcgdgaaGreatDoor

namespace Go.Proofs.YtjjppmbojcgdgaaGreatDoor
open Go Go.Abs Go.Opn
theorem oStr : Opnd Tryz.prog 9 1 (fun s : List UInt8 => [.str s]) (fun s => s.length ≤ reachBytes) := Opnd.str Tryz.underlying9 (by kernel_rfl)
theorem oInt : Opnd Tryz.prog 3 1 (fun z : Int => [.int .i64 z]) (fun _ => True) := (Opnd.int Tryz.underlying3 (by kernel_rfl)).map id (fun _ => rfl) (fun _ _ => trivial)
theorem oCat : Opnd Tryz.prog 141 1 (fun z : Int => [.int .i64 z]) (fun _ => True) := (Opnd.int Tryz.underlying141 (by kernel_rfl)).map id (fun _ => rfl) (fun _ _ => trivial)
theorem reach_le {n : Nat} (h : n ≤ reachBytes) : n ≤ 140737488355328 := by unfold reachBytes at h; exact Nat.le_trans h (by decide)
end Go.Proofs.YtjjppmbojcgdgaaGreatDoor
