/- The writer of bytes: what each of its functions does. -/
import Derived.Test.YtpbjjhpihhnomaaGreatDoorJ19
import Derived.Test.YtpbjjhpihhnomaaGreatDoorJ22
import Derived.Test.YtpbjjhpihhnomaaGreatDoorJ25
import Derived.Test.YtpbjjhpihhnomaaGreatDoorJ21
set_option linter.unusedVariables false
set_option linter.unusedSimpArgs false
set_option maxRecDepth 100000
set_option maxHeartbeats 4000000

namespace Go.Proofs.YtpbjjhpihhnomaaGreatDoor
open Go Go.Abs
set_option linter.unusedVariables false
set_option linter.unusedSimpArgs false
structure BC (α : Type) where
  l0 : α
  l1 : α
  l2 : α
  l3 : α
  l4 : α
  l5 : α
  h0 : Bool
  h1 : Bool
  h2 : Bool
  h3 : Bool
  h4 : Bool
  h5 : Bool
def bc0 {α : Type} (z : α) : BC α := ⟨z, z, z, z, z, z, false, false, false, false, false, false⟩
def putN {α : Type} (b : BC α) (c : Nat) (v : α) : BC α := match c with
  | 0 => { b with l0 := v, h0 := true }
  | 1 => { b with l1 := v, h1 := true }
  | 2 => { b with l2 := v, h2 := true }
  | 3 => { b with l3 := v, h3 := true }
  | 4 => { b with l4 := v, h4 := true }
  | 5 => { b with l5 := v, h5 := true }
  | _ => b
def putC {α : Type} (b : BC α) (c : Int) (v : α) : BC α := if 0 ≤ c ∧ c ≤ 5 then putN b c.toNat v else b
def atN {α : Type} (b : BC α) (c : Nat) : α := match c with
  | 0 => b.l0
  | 1 => b.l1
  | 2 => b.l2
  | 3 => b.l3
  | 4 => b.l4
  | _ => b.l5
def hasN {α : Type} (b : BC α) (c : Nat) : Bool := match c with
  | 0 => b.h0
  | 1 => b.h1
  | 2 => b.h2
  | 3 => b.h3
  | 4 => b.h4
  | 5 => b.h5
  | _ => false
def hasC {α : Type} (b : BC α) (c : Int) : Bool := decide (0 ≤ c ∧ c ≤ 5) && hasN b c.toNat
def getC {α : Type} (b : BC α) (c : Int) : α := if hasC b c = true then atN b c.toNat else b.l5
def byG {α : Type} (read : List UInt8 → α) : BC α → List TTxt → BC α
  | b, [] => b
  | b, x :: l => byG read (putC b x.cat (read x.text)) l
def byC {α : Type} (z : α) (read : List UInt8 → α) (l : List TTxt) : BC α := byG read (bc0 z) l
end Go.Proofs.YtpbjjhpihhnomaaGreatDoor

namespace Go.Proofs.YtpbjjhpihhnomaaGreatDoor
open Go Go.Abs
attribute [local irreducible] DrawW CallW RetW AC Does CmpW
variable {G : Globs}
structure PD where
  a : List (List AV)
  b : List (List AV)
  c : List (List AV)
  d : List (List AV)
  two : Bool
  N : Num
structure CD where
  z : Nat
  nb : Bool
  p : PD
def PD.cells (x : PD) : List AV := patCells ⟨.fsl x.a, .fsl x.b, .fsl x.c, .fsl x.d⟩ x.two x.N
def CD.cells (x : CD) : List AV := .int .i64 (x.z : Int) :: .bool x.nb :: x.p.cells
def pd0 : PD := ⟨[], [], [], [], false, Num.zero⟩
def cd0 : CD := ⟨0, false, pd0⟩
def BC.hs {α : Type} (b : BC α) : List AV := [.bool b.h0, .bool b.h1, .bool b.h2, .bool b.h3, .bool b.h4, .bool b.h5]
def bcC {α : Type} (enc : α → List AV) (b : BC α) : List AV := enc b.l0 ++ enc b.l1 ++ enc b.l2 ++ enc b.l3 ++ enc b.l4 ++ enc b.l5 ++ b.hs
theorem cat6 {c : Int} (h : 0 ≤ c ∧ c ≤ 5) : c = 0 ∨ c = 1 ∨ c = 2 ∨ c = 3 ∨ c = 4 ∨ c = 5 := by omega
theorem getC_out {α : Type} {b : BC α} {c : Int} (h : ¬ (0 ≤ c ∧ c ≤ 5)) : getC b c = b.l5 := by simp [getC, hasC, h]
theorem putC_out {α : Type} {b : BC α} {c : Int} {x : α} (h : ¬ (0 ≤ c ∧ c ≤ 5)) : putC b c x = b := by simp [putC, h]
theorem StrPut_does (v : Nat) (b : BC (List UInt8)) (c : Int) (x : List UInt8) : Does Tryz.prog G 166 [.ptr 0 v 0 0, .int .i64 c, .str x] [some ⟨v, 280, 12, [bcC encS1 b]⟩] fun ae O => ae = .ret (.tuple []) ∧ O = [some ⟨v, 280, 12, [bcC encS1 (putC b c x)]⟩] := by
  refine Does.body tab Tryz.func166 rfl rfl ?_
  by_cases hc : 0 ≤ c ∧ c ≤ 5
  case neg =>
    rw [putC_out hc]
    refine gos ?_
    by_cases h0 : 0 ≤ c
    · refine CmpW.T ?_
      refine gos ?_
      refine CmpW.N ?_
      refine gos ?_
      refine RetW.plain (by simp) ?_
      exact ⟨rfl, rfl⟩
    · refine CmpW.N ?_
      refine gos ?_
      refine RetW.plain (by simp) ?_
      exact ⟨rfl, rfl⟩
  obtain ⟨l0, l1, l2, l3, l4, l5, h0, h1, h2, h3, h4, h5⟩ := b
  rcases cat6 hc with rfl | rfl | rfl | rfl | rfl | rfl
  all_goals
    refine gos ?_
    refine DrawW.P (.take 0 (.take 1 (.take 2 (.take 3 (.take 4 (.take 5 (.take 6 (.take 7 (.take 9 (.take 10 (.take 8 (.take 11 (.take 12 .done))))))))))))) ?_
    refine gos ?_
    refine RetW.plain (by simp) ?_
    exact ⟨rfl, rfl⟩
def encB (x : List (List AV) × List (List AV)) : List AV := [.fsl x.1, .fsl x.2]
theorem BraPut_does (v : Nat) (b : BC (List (List AV) × List (List AV))) (c : Int) (x : List (List AV) × List (List AV)) : Does Tryz.prog G 164 [.ptr 0 v 0 0, .int .i64 c, .agg (encB x)] [some ⟨v, 276, 18, [bcC encB b]⟩] fun ae O => ae = .ret (.tuple []) ∧ O = [some ⟨v, 276, 18, [bcC encB (putC b c x)]⟩] := by
  refine Does.bodyA tab Tryz.func164 rfl rfl ?_
  refine AC.step tab ?_
  refine gos ?_
  intro v1
  refine gos ?_
  by_cases hc : 0 ≤ c ∧ c ≤ 5
  case neg =>
    rw [putC_out hc]
    refine AC.go tab ?_
    refine gos ?_
    by_cases h0 : 0 ≤ c
    · refine CmpW.T ?_
      refine gos ?_
      refine CmpW.N ?_
      refine gos ?_
      refine RetW.plain (by simp) ?_
      exact ⟨rfl, rfl⟩
    · refine CmpW.N ?_
      refine gos ?_
      refine RetW.plain (by simp) ?_
      exact ⟨rfl, rfl⟩
  obtain ⟨l0, l1, l2, l3, l4, l5, h0, h1, h2, h3, h4, h5⟩ := b
  rcases cat6 hc with rfl | rfl | rfl | rfl | rfl | rfl
  all_goals
    refine AC.go tab ?_
    refine gos ?_
    refine DrawW.P (.take 0 (.take 1 (.take 2 (.take 3 (.take 4 (.take 5 (.take 6 (.take 7 (.take 9 (.take 10 (.take 8 (.take 11 (.take 12 .done))))))))))))) ?_
    refine gos ?_
    refine RetW.plain (by simp) ?_
    exact ⟨rfl, rfl⟩
theorem CpaGet_does (b : BC (CD)) (c : Int) : Does Tryz.prog G 137 [.fptr (bcC CD.cells b), .int .i64 c] [] fun ae _ => ae = .ret (.agg (getC b c).cells) := by
  refine Does.body tab Tryz.func137 rfl rfl ?_
  by_cases hc : 0 ≤ c ∧ c ≤ 5
  case neg =>
    rw [getC_out hc]
    refine gos ?_
    intro v1
    refine gos ?_
    by_cases h0 : c < 0
    · refine CmpW.T ?_
      refine gos ?_
      refine RetW.plain (by simp) ?_
      rfl
    · refine CmpW.N ?_
      refine gos ?_
      refine CmpW.T ?_
      refine gos ?_
      refine RetW.plain (by simp) ?_
      rfl
  obtain ⟨l0, l1, l2, l3, l4, l5, h0, h1, h2, h3, h4, h5⟩ := b
  rcases cat6 hc with rfl | rfl | rfl | rfl | rfl | rfl
  · cases h0
    all_goals
      refine gos ?_
      intro v1
      refine gos ?_
      refine RetW.plain (by simp) ?_
      rfl
  · cases h1
    all_goals
      refine gos ?_
      intro v1
      refine gos ?_
      refine RetW.plain (by simp) ?_
      rfl
  · cases h2
    all_goals
      refine gos ?_
      intro v1
      refine gos ?_
      refine RetW.plain (by simp) ?_
      rfl
  · cases h3
    all_goals
      refine gos ?_
      intro v1
      refine gos ?_
      refine RetW.plain (by simp) ?_
      rfl
  · cases h4
    all_goals
      refine gos ?_
      intro v1
      refine gos ?_
      refine RetW.plain (by simp) ?_
      rfl
  · cases h5
    all_goals
      refine gos ?_
      intro v1
      refine gos ?_
      refine RetW.plain (by simp) ?_
      rfl
theorem CpaPut_does (v : Nat) (b : BC (CD)) (c : Int) (x : CD) : Does Tryz.prog G 220 [.ptr 0 v 0 0, .int .i64 c, .agg x.cells] [some ⟨v, 317, 84, [bcC CD.cells b]⟩] fun ae O => ae = .ret (.tuple []) ∧ O = [some ⟨v, 317, 84, [bcC CD.cells (putC b c x)]⟩] := by
  refine Does.bodyA tab Tryz.func220 rfl rfl ?_
  refine AC.step tab ?_
  refine gos ?_
  intro v1
  refine gos ?_
  by_cases hc : 0 ≤ c ∧ c ≤ 5
  case neg =>
    rw [putC_out hc]
    refine AC.go tab ?_
    refine gos ?_
    by_cases h0 : 0 ≤ c
    · refine CmpW.T ?_
      refine gos ?_
      refine CmpW.N ?_
      refine gos ?_
      refine RetW.plain (by simp) ?_
      exact ⟨rfl, rfl⟩
    · refine CmpW.N ?_
      refine gos ?_
      refine RetW.plain (by simp) ?_
      exact ⟨rfl, rfl⟩
  obtain ⟨l0, l1, l2, l3, l4, l5, h0, h1, h2, h3, h4, h5⟩ := b
  rcases cat6 hc with rfl | rfl | rfl | rfl | rfl | rfl
  all_goals
    refine AC.go tab ?_
    refine gos ?_
    refine DrawW.P (.take 0 (.take 1 (.take 2 (.take 3 (.take 4 (.take 5 (.take 6 (.take 7 (.take 9 (.take 10 (.take 8 (.take 11 (.take 12 .done))))))))))))) ?_
    refine gos ?_
    refine RetW.plain (by simp) ?_
    exact ⟨rfl, rfl⟩
end Go.Proofs.YtpbjjhpihhnomaaGreatDoor

namespace Go.Proofs.YtpbjjhpihhnomaaGreatDoor
open Go Go.Abs
attribute [local irreducible] DrawW CallW RetW AC Does CmpW
variable {G : Globs}
theorem byteEs_snoc (l : List UInt8) (b : UInt8) : byteEs' (l ++ [b]) = byteEs' l ++ [[.int .u8 (b.toNat : Int)]] := by simp [byteEs']
theorem hi128 {m : Nat} (hm : m < 9223372036854775808) : IntKind.u8.wrap (IntKind.i64.wrap (BitVec.ofInt IntKind.i64.bits (IntKind.i64.wrap (BitVec.ofInt IntKind.i64.bits (m : Int) &&& BitVec.ofInt IntKind.i64.bits 127).toNat) ||| BitVec.ofInt IntKind.i64.bits 128).toNat) = ((UInt8.ofNat (m % 128 + 128)).toNat : Int) := by
  rw [and127 hm, or128 (Nat.mod_lt _ (by decide)), byte_of (by omega)]
theorem shr7 (m : Nat) : Int.fdiv (m : Int) (2 ^ (min (Int.toNat 7) IntKind.i64.bits)) = ((m / 128 : Nat) : Int) := by
  rw [show (2 : Int) ^ (min (Int.toNat 7) IntKind.i64.bits) = ((128 : Nat) : Int) from rfl, Int.fdiv_eq_ediv_of_nonneg _ (by omega)]; rfl
theorem WNum_does (v rv : Nat) (n : Int) (l : List UInt8) (hn : n < 9223372036854775808) (hl : l.length < 100000) : Does Tryz.prog G 92 [.ptr 0 v 0 0, .int .i64 n] [some (wrtO 191 v (.sl 1 rv)), some ⟨rv, 5, 1, byteEs' l⟩]
    fun ae O => ae = .ret (.ptr 0 v 0 0) ∧ ∃ rv', O = [some (wrtO 191 v (.sl 1 rv')), some ⟨rv', 5, 1, byteEs' (l ++ numW n)⟩] := by
  have hmax : (if (0 : Int) > n then (0 : Int) else n) = ((n.toNat : Nat) : Int) := by omega
  have hN : n.toNat < 9223372036854775808 := by omega
  have h70 : n.toNat < 2 ^ (7 * 10) := Nat.lt_trans hN (by decide)
  refine Does.bodyA tab Tryz.func92 rfl rfl ?_
  refine AC.step tab ?_
  refine gos ?_
  refine AC.step tab ?_
  refine gos ?_
  rw [hmax]
  refine gos ?_
  refine AC.cutF tab (fun e h => ∃ (k m rv' : Nat) (l' : List UInt8), k ≤ 9 ∧ m ≤ 127 ∧ l'.length ≤ l.length + 10 ∧ l ++ numW n = l' ++ [UInt8.ofNat m] ∧
    e = ([.ptr 0 v 0 0, .int .i64 m] ++ List.replicate 34 .any) ∧ h = [some (wrtO 191 v (.sl 1 rv')), some ⟨rv', 5, 1, byteEs' l'⟩]) ?_ ?_
  · refine gos ?_
    refine AC.loopC tab (fun f e h => ∃ (m rv' : Nat) (l' : List UInt8), 0 < f ∧ m < 2 ^ (7 * f) ∧ m < 9223372036854775808 ∧ l'.length + f = l.length + 10 ∧ l ++ numW n = l' ++ numL f m ∧
        e = ([.ptr 0 v 0 0, .int .i64 m] ++ List.replicate 34 .any) ∧ h = [some (wrtO 191 v (.sl 1 rv')), some ⟨rv', 5, 1, byteEs' l'⟩])
      10 ⟨_, fgts, n.toNat, rv, l, by omega, h70, hN, rfl, rfl, rfl, rfl⟩ ?_
    rintro f e h ⟨m, rv', l', hf0, hm, hm2, hlen, hF, rfl, rfl⟩
    obtain ⟨f, rfl⟩ : ∃ g, f = g + 1 := ⟨f - 1, by omega⟩
    refine gos ?_
    by_cases hlt : m ≤ 127
    · refine CmpW.f (by simp; omega) ?_
      refine gos ?_
      rw [numL, if_pos hlt] at hF
      exact ⟨_, 2, fgts, 0, m, rv', l', by omega, hlt, by omega, hF, rfl, rfl⟩
    · refine CmpW.t (by simp; omega) ?_
      rw [numL, if_neg hlt] at hF
      have hf1 : 0 < f := by
        rcases Nat.eq_zero_or_pos f with h | h
        · subst h; simp at hm; omega
        · exact h
      have hm' : m / 128 < 2 ^ (7 * f) := by
        rw [Nat.div_lt_iff_lt_mul (by decide)]
        have : 7 * (f + 1) = 7 * f + 7 := by omega
        rw [this, Nat.pow_add] at hm
        exact hm
      have hB := hi128 hm2
      have hS := shr7 m
      have hbl : (byteEs' l').length = l'.length := by simp [byteEs']
      refine gos ?_
      intro v3
      refine gos ?_
      refine And.intro (And.intro (fun y hy => by rcases List.mem_singleton.1 hy with rfl; rfl) (fun y hy => by rcases List.mem_singleton.1 hy with rfl; rfl)) ?_; refine And.intro (And.intro rfl trivial) ?_
      refine gos ?_
      refine And.intro (by simp [byteEs', maxLen, ti5]; omega) ?_
      intro v4
      refine gos ?_
      refine And.intro (by decide) ⟨((m / 128 : Nat) : Int), hS, ?_⟩
      refine gos ?_
      refine ⟨f, _, 2, by omega, fgts, m / 128, v4, l' ++ [UInt8.ofNat (m % 128 + 128)], hf1, hm', by omega, by simp; omega, by rw [hF]; simp, rfl, ?_⟩
      rw [byteEs_snoc, ← hB]
      rfl
  rintro e h ⟨k, m, rv', l', hk, hm, hlen, hF, rfl, rfl⟩
  have hB : IntKind.u8.wrap (m : Int) = ((UInt8.ofNat m).toNat : Int) := byte_of (by omega)
  refine AC.go tab ?_
  refine gos ?_
  intro v3
  refine gos ?_
  refine And.intro (And.intro (fun y hy => by rcases List.mem_singleton.1 hy with rfl; rfl) (fun y hy => by rcases List.mem_singleton.1 hy with rfl; rfl)) ?_; refine And.intro (And.intro rfl trivial) ?_
  refine gos ?_
  refine And.intro (by simp [byteEs', maxLen, ti5]; omega) ?_
  intro v4
  refine gos ?_
  refine RetW.plain (by simp) ?_
  refine ⟨rfl, v4, ?_⟩
  rw [hF, byteEs_snoc, ← hB]
  rfl
theorem WText_does (v rv : Nat) (s l : List UInt8) (hs : s.length < 100000) (hl : l.length < 90000) : Does Tryz.prog G 91 [.ptr 0 v 0 0, .str s] [some (wrtO 191 v (.sl 1 rv)), some ⟨rv, 5, 1, byteEs' l⟩]
    fun ae O => ae = .ret (.ptr 0 v 0 0) ∧ ∃ rv', O = [some (wrtO 191 v (.sl 1 rv')), some ⟨rv', 5, 1, byteEs' (l ++ textW s)⟩] := by
  have h10 := len_numL 10 (s.length : Int).toNat
  refine Does.bodyA tab Tryz.func91 rfl rfl ?_
  refine AC.step tab ?_
  refine gos ?_
  refine AC.step tab ?_
  refine gos ?_
  refine CallW.wrt (i := 0) (j := 1) (by decide) rfl rfl (WNum_does v rv s.length l (by omega) (by omega)) rfl (fun rv' => ?_)
  refine gos ?_
  refine AC.go tab ?_
  refine gos ?_
  refine And.intro (by have h11 := len_numL 10 s.length; simp [byteEs', numW]; omega) ?_
  intro v4
  refine gos ?_
  refine RetW.plain (by simp) ?_
  exact ⟨rfl, v4, by simp [byteEs', textW]; rfl⟩
theorem WString_does (v rv : Nat) (l : List UInt8) (hl : l.length < 200000) : Does Tryz.prog G 95 [.ptr 0 v 0 0] [some (wrtO 191 v (.sl 1 rv)), some ⟨rv, 5, 1, byteEs' l⟩]
    fun ae O => ae = .ret (.str l) ∧ O = [some (wrtO 191 v (.sl 1 rv)), some ⟨rv, 5, 1, byteEs' l⟩] := by
  refine Does.bodyA tab Tryz.func95 rfl rfl ?_
  refine AC.step tab ?_
  refine gos ?_
  refine AC.go tab ?_
  refine gos ?_
  dsimp only
  refine gos ?_
  refine RetW.plain (by simp) ?_
  exact ⟨rfl, rfl⟩
end Go.Proofs.YtpbjjhpihhnomaaGreatDoor
