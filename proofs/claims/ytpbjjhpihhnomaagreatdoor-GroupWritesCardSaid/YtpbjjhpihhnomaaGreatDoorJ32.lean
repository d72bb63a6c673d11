/- The reader of bytes: what each of its functions does. -/
import Derived.Test.YtpbjjhpihhnomaaGreatDoorJ26
import Derived.Test.YtpbjjhpihhnomaaGreatDoorJ21
import Derived.Test.YtpbjjhpihhnomaaGreatDoorJ22
import Derived.Test.YtpbjjhpihhnomaaGreatDoorJ07
set_option linter.unusedVariables false
set_option linter.unusedSimpArgs false
set_option maxRecDepth 100000
set_option maxHeartbeats 4000000

namespace Go.Proofs.YtpbjjhpihhnomaaGreatDoor
open Go Go.Abs
set_option linter.unusedVariables false
set_option linter.unusedSimpArgs false
def mapG {α : Type} (key : α → List UInt8) (val : α → AV) : List (List AV) → List α → List (List AV)
  | es, [] => es
  | es, x :: l => mapG key val (putM es (key x) (val x)) l
theorem mapG_ok {α : Type} (key : α → List UInt8) (val : α → AV) : ∀ (l : List α) (es : List (List AV)), keysOK es = true → keysOK (mapG key val es l) = true
  | [], _, h => h
  | x :: l, es, h => mapG_ok key val l _ (keysOK_putM _ _ h)
end Go.Proofs.YtpbjjhpihhnomaaGreatDoor

namespace Go.Proofs.YtpbjjhpihhnomaaGreatDoor
open Go Go.Abs
attribute [local irreducible] DrawW CallW RetW AC Does CmpW
variable {G : Globs}
def rdO (v : Nat) (r : Rd) : AObj := ⟨v, 342, 3, [[.str r.s, .int .i64 r.p, .bool r.bad]]⟩
theorem New_does (s : List UInt8) : Does Tryz.prog G 168 [.str s] [none] fun ae O => ∃ N, ae = .ret (.ptr 0 N 0 0) ∧ O = [some (rdO N ⟨s, 0, false⟩)] := by
  refine Does.body tab Tryz.func168 rfl rfl ?_
  refine gos ?_
  intro v1
  refine gos ?_
  refine RetW.moveP (k := 1) (j := 0) (by simp) rfl rfl (fun N => ?_)
  exact ⟨N, rfl, rfl⟩
theorem OK_does (v : Nat) (r : Rd) : Does Tryz.prog G 224 [.ptr 0 v 0 0] [some (rdO v r)] fun ae O => ae = .ret (.bool (!r.bad)) ∧ O = [some (rdO v r)] := by
  refine Does.body tab Tryz.func224 rfl rfl ?_
  refine gos ?_
  refine RetW.plain (by simp) ?_
  exact ⟨rfl, rfl⟩
theorem Done_does (v : Nat) (r : Rd) : Does Tryz.prog G 177 [.ptr 0 v 0 0] [some (rdO v r)] fun ae O => ae = .ret (.bool (!r.bad && decide (r.p = r.s.length))) ∧ O = [some (rdO v r)] := by
  obtain ⟨s, p, bad⟩ := r
  refine Does.body tab Tryz.func177 rfl rfl ?_
  cases bad
  · refine gos ?_
    refine DrawW.L ?_
    refine gos ?_
    refine CmpW.s ?_
    refine gos ?_
    refine RetW.plain (by simp) ?_
    refine ⟨?_, rfl⟩
    congr 2
    rw [Bool.eq_iff_iff]; simp; omega
  · refine gos ?_
    refine DrawW.L ?_
    refine gos ?_
    refine RetW.plain (by simp) ?_
    exact ⟨rfl, rfl⟩
theorem rshl {b : UInt8} {sh acc : Nat} (hsh : sh ≤ 56) (ha : acc < 2 ^ sh) :
    IntKind.i64.wrap (BitVec.ofInt IntKind.i64.bits (acc : Int) ||| BitVec.ofInt IntKind.i64.bits (IntKind.i64.wrap ((IntKind.i64.wrap (IntKind.u8.wrap (BitVec.ofInt IntKind.u8.bits (b.toNat : Int) &&& BitVec.ofInt IntKind.u8.bits 127).toNat)) * 2 ^ (min ((sh : Nat) : Int).toNat IntKind.i64.bits)))).toNat = ((acc + b.toNat % 128 * 2 ^ sh : Nat) : Int) := by
  rw [u8and127, wrapN (a := b.toNat % 128) (by omega), shl7 (Nat.mod_lt _ (by decide)) hsh, or_add ha (Nat.mod_lt _ (by decide)) hsh]
theorem Num_does (v : Nat) (r : Rd) (hk : r.ok) (hs : r.s.length < 4294967296) : Does Tryz.prog G 170 [.ptr 0 v 0 0] [some (rdO v r)] fun ae O => ae = .ret (.int .i64 ((numRd r).1 : Nat)) ∧ O = [some (rdO v (numRd r).2)] := by
  obtain ⟨s, p, bad⟩ := r
  have hk : p ≤ s.length := hk
  have hs : s.length < 4294967296 := hs
  refine Does.bodyA tab Tryz.func170 rfl rfl ?_
  refine AC.step tab ?_
  refine gos ?_
  refine AC.step tab ?_
  refine gos ?_
  refine AC.cutF tab (fun e h => ∃ (n q : Nat) (bd : Bool), (numRd ⟨s, p, bad⟩).2 = ⟨s, q, bd⟩ ∧ (numRd ⟨s, p, bad⟩).1 = (if bd then 0 else n) ∧
    e = ([.ptr 0 v 0 0] ++ List.replicate 2 .any ++ [.int .i64 n] ++ List.replicate 65 .any) ∧ h = [some (rdO v ⟨s, q, bd⟩)]) ?_ ?_
  · cases bad
    case true =>
      refine gos ?_
      refine AC.rounds tab 1 ?_
      refine gos ?_
      exact ⟨_, 1, fgts, 0, p, true, rfl, rfl, rfl, rfl⟩
    refine gos ?_
    refine AC.loopC tab (fun f e h => ∃ (sh acc q : Nat), sh + 7 * f = 70 ∧ 0 < f ∧ q ≤ s.length ∧ acc < 2 ^ sh ∧ numRd ⟨s, p, false⟩ = numG f ⟨s, q, false⟩ acc sh ∧
        e = ([.ptr 0 v 0 0] ++ List.replicate 2 .any ++ [.int .i64 acc, .int .i64 sh] ++ List.replicate 64 .any) ∧ h = [some (rdO v ⟨s, q, false⟩)])
      10 ⟨_, fgts, 0, 0, p, rfl, by omega, hk, by simp, rfl, rfl, rfl⟩ ?_
    rintro f e h ⟨sh, acc, q, hf, hf0, hq, hacc, hF, rfl, rfl⟩
    obtain ⟨f, rfl⟩ : ∃ g, f = g + 1 := ⟨f - 1, by omega⟩
    rw [numG] at hF
    simp only at hF
    refine gos ?_
    refine DrawW.L ?_
    refine gos ?_
    by_cases hlt : q < s.length
    case neg =>
      have hq' : q = s.length := by omega
      rw [List.getElem?_eq_none (by omega)] at hF
      refine CmpW.t (by simp; omega) ?_
      refine gos ?_
      exact ⟨_, 1, fgts, acc, q, true, by rw [hF], by rw [hF]; rfl, rfl, rfl⟩
    refine CmpW.f (by simp; omega) ?_
    refine gos ?_
    obtain ⟨b, hb⟩ : ∃ c, s[q]? = some c := ⟨_, List.getElem?_eq_getElem hlt⟩
    rw [hb] at hF
    simp only at hF
    by_cases h56 : 56 < sh
    · rw [if_pos h56] at hF
      refine CmpW.T ?_
      refine gos ?_
      exact ⟨_, 1, fgts, acc, q, true, by rw [hF], by rw [hF]; rfl, rfl, rfl⟩
    rw [if_neg h56] at hF
    refine CmpW.N ?_
    refine gos ?_
    refine DrawW.L ?_
    refine gos ?_
    refine And.intro (by omega) ⟨b, hb, ?_⟩
    refine gos ?_
    refine And.intro (by omega) ?_
    refine gos ?_
    have hX := rshl (b := b) (show sh ≤ 56 by omega) hacc
    by_cases h128 : b.toNat < 128
    · rw [if_pos h128] at hF
      refine CmpW.T ?_
      have hmod : b.toNat % 128 = b.toNat := Nat.mod_eq_of_lt h128
      rw [hmod] at hX
      rw [hX]
      refine gos ?_
      by_cases hb0 : b = 0
      · subst hb0
        refine CmpW.t (by simp) ?_
        refine gos ?_
        by_cases hs0 : 0 < sh
        · rw [if_pos ⟨rfl, hs0⟩] at hF
          refine CmpW.T ?_
          refine gos ?_
          exact ⟨_, 1, fgts, _, q + 1, true, by rw [hF], by rw [hF]; rfl, rfl, rfl⟩
        · rw [if_neg (fun h => hs0 h.2)] at hF
          refine CmpW.N ?_
          refine gos ?_
          exact ⟨_, 1, fgts, _, q + 1, false, by rw [hF], by rw [hF]; rfl, rfl, rfl⟩
      · rw [if_neg (fun h => hb0 h.1)] at hF
        refine CmpW.f (by simp; exact fun h => hb0 (UInt8.toNat_inj.1 h)) ?_
        refine gos ?_
        exact ⟨_, 1, fgts, _, q + 1, false, by rw [hF], by rw [hF]; rfl, rfl, rfl⟩
    · rw [if_neg h128] at hF
      refine CmpW.N ?_
      rw [hX]
      refine gos ?_
      exact ⟨f, _, 1, by omega, fgts, sh + 7, _, q + 1, by omega, by omega, by omega, acc_lt hacc (Nat.mod_lt _ (by decide)), hF, rfl, rfl⟩
  rintro e h ⟨n, q, bd, e1, e2, rfl, rfl⟩
  rw [e1, e2]
  cases bd
  all_goals
    refine AC.go tab ?_
    refine gos ?_
    refine RetW.plain (by simp) ?_
    exact ⟨rfl, rfl⟩
theorem Text_does (v : Nat) (r : Rd) (hk : r.ok) (hs : r.s.length < 4294967296) : Does Tryz.prog G 169 [.ptr 0 v 0 0] [some (rdO v r)] fun ae O => ae = .ret (.str (textRd r).1) ∧ O = [some (rdO v (textRd r).2)] := by
  obtain ⟨k1, k2⟩ := num_keeps r hk
  have hlt := numRd_lt r
  have hd := Num_does (G := G) v r hk hs
  have e0 : textRd r = if (numRd r).2.bad = true ∨ (numRd r).2.s.length - (numRd r).2.p < (numRd r).1 then ([], { (numRd r).2 with bad := true }) else (((numRd r).2.s.drop (numRd r).2.p).take (numRd r).1, { (numRd r).2 with p := (numRd r).2.p + (numRd r).1 }) := rfl
  rw [e0]
  rw [← k2] at hs
  generalize numRd r = x at *
  obtain ⟨n, s, q, bd⟩ := x
  simp only at *
  have k1 : q ≤ s.length := k1
  refine Does.bodyA tab Tryz.func169 rfl rfl ?_
  refine AC.step tab ?_
  refine gos ?_
  refine AC.step tab ?_
  refine gos ?_
  refine CallW.meth 0 hd rfl rfl rfl rfl rfl rfl ?_
  refine gos ?_
  refine AC.step tab ?_
  refine gos ?_
  refine DrawW.L ?_
  refine gos ?_
  by_cases hl : s.length - q < n
  · refine CmpW.T ?_
    refine gos ?_
    refine AC.go tab ?_
    refine gos ?_
    refine RetW.plain (by simp) ?_
    rw [if_pos (.inr hl)]
    exact ⟨rfl, rfl⟩
  refine CmpW.N ?_
  cases bd
  · refine gos ?_
    refine AC.go tab ?_
    refine gos ?_
    refine DrawW.L ?_
    refine gos ?_
    refine And.intro (And.intro (by dsimp only; omega) (And.intro (by dsimp only; omega) (by dsimp only; omega))) ?_
    refine gos ?_
    refine RetW.plain (by simp) ?_
    rw [if_neg (by rintro (h | h); exact Bool.noConfusion h; omega)]
    refine ⟨?_, rfl⟩
    congr 2
    show List.drop ((q : Int) + n - n).toNat (List.take ((q : Int) + n).toNat s) = List.take n (List.drop q s)
    rw [show ((q : Int) + n - n).toNat = q by omega, show ((q : Int) + n).toNat = q + n by omega, List.drop_take, Nat.add_sub_cancel_left]
  · refine gos ?_
    refine AC.go tab ?_
    refine gos ?_
    refine RetW.plain (by simp) ?_
    rw [if_pos (.inl rfl)]
    exact ⟨rfl, rfl⟩
theorem Count_does (v : Nat) (r : Rd) (m : Nat) (hm : m < 9223372036854775808) (hk : r.ok) (hs : r.s.length < 4294967296) : Does Tryz.prog G 223 [.ptr 0 v 0 0, .int .i64 m] [some (rdO v r)] fun ae O => ae = .ret (.int .i64 ((countRd m r).1 : Nat)) ∧ O = [some (rdO v (countRd m r).2)] := by
  have hlt := numRd_lt r
  have hd := Num_does (G := G) v r hk hs
  have e0 : countRd m r = if m < (numRd r).1 then (0, { (numRd r).2 with bad := true }) else numRd r := rfl
  rw [e0]
  generalize numRd r = x at *
  obtain ⟨n, s, q, bd⟩ := x
  refine Does.body tab Tryz.func223 rfl rfl ?_
  refine gos ?_
  refine CallW.meth 0 hd rfl rfl rfl rfl rfl rfl ?_
  refine gos ?_
  by_cases hl : m < n
  · refine CmpW.T ?_
    refine gos ?_
    refine RetW.plain (by simp) ?_
    rw [if_pos hl]
    exact ⟨rfl, rfl⟩
  · refine CmpW.N ?_
    refine gos ?_
    refine RetW.plain (by simp) ?_
    rw [if_neg hl]
    exact ⟨rfl, rfl⟩
end Go.Proofs.YtpbjjhpihhnomaaGreatDoor
