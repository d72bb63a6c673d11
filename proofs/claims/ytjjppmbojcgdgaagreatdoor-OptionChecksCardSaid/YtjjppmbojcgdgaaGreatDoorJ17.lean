/- Texts, rows, currencies, units, read. -/
import Derived.Test.YtjjppmbojcgdgaaGreatDoorJ16
import Derived.Test.YtjjppmbojcgdgaaGreatDoorJ15
import Derived.Test.YtjjppmbojcgdgaaGreatDoorJ02
set_option linter.unusedVariables false
set_option linter.unusedSimpArgs false
set_option maxRecDepth 100000
set_option maxHeartbeats 4000000

namespace Go.Proofs.YtjjppmbojcgdgaaGreatDoor
open Go Go.Abs
attribute [local irreducible] DrawW CallW RetW AC Does CmpW
variable {G : Globs}
def rdO (v : Nat) (r : Rd) : AObj := ⟨v, 321, 3, [[.str r.s, .int .i64 r.p, .bool r.bad]]⟩
theorem New_does (s : List UInt8) : Does Tryz.prog G 135 [.str s] [none] fun ae O => ∃ N, ae = .ret (.ptr 0 N 0 0) ∧ O = [some (rdO N ⟨s, 0, false⟩)] := by
  refine Does.body tab Tryz.func135 rfl rfl ?_
  refine gos ?_
  intro v1
  refine gos ?_
  refine RetW.moveP (k := 1) (j := 0) (by simp) rfl rfl (fun N => ?_)
  exact ⟨N, rfl, rfl⟩
theorem OK_does (v : Nat) (r : Rd) : Does Tryz.prog G 229 [.ptr 0 v 0 0] [some (rdO v r)] fun ae O => ae = .ret (.bool (!r.bad)) ∧ O = [some (rdO v r)] := by
  refine Does.body tab Tryz.func229 rfl rfl ?_
  refine gos ?_
  refine RetW.plain (by simp) ?_
  exact ⟨rfl, rfl⟩
theorem Done_does (v : Nat) (r : Rd) : Does Tryz.prog G 140 [.ptr 0 v 0 0] [some (rdO v r)] fun ae O => ae = .ret (.bool (!r.bad && decide (r.p = r.s.length))) ∧ O = [some (rdO v r)] := by
  obtain ⟨s, p, bad⟩ := r
  refine Does.body tab Tryz.func140 rfl rfl ?_
  cases bad
  · refine gos ?_
    refine DrawW.L ?_
    refine gos ?_
    refine CmpW.s ?_
    refine gos ?_
    refine RetW.plain (by simp) ?_
    refine ⟨?_, rfl⟩
    congr 2
    rw [Bool.eq_iff_iff]; simp; omega
  · refine gos ?_
    refine DrawW.L ?_
    refine gos ?_
    refine RetW.plain (by simp) ?_
    exact ⟨rfl, rfl⟩
theorem numRd_bad {s : List UInt8} {p : Nat} : numRd ⟨s, p, true⟩ = (0, ⟨s, p, true⟩) := rfl
theorem numRd_go {s : List UInt8} {p : Nat} : numRd ⟨s, p, false⟩ = numG 10 ⟨s, p, false⟩ 0 0 := rfl
theorem rshl {b : UInt8} {sh acc : Nat} (hsh : sh ≤ 56) (ha : acc < 2 ^ sh) :
    IntKind.i64.wrap (BitVec.ofInt IntKind.i64.bits (acc : Int) ||| BitVec.ofInt IntKind.i64.bits (IntKind.i64.wrap ((IntKind.i64.wrap (IntKind.u8.wrap (BitVec.ofInt IntKind.u8.bits (b.toNat : Int) &&& BitVec.ofInt IntKind.u8.bits 127).toNat)) * 2 ^ (min ((sh : Nat) : Int).toNat IntKind.i64.bits)))).toNat = ((acc + b.toNat % 128 * 2 ^ sh : Nat) : Int) := by
  rw [u8and127, wrapN (a := b.toNat % 128) (by omega), shl7 (Nat.mod_lt _ (by decide)) hsh, or_add ha (Nat.mod_lt _ (by decide)) hsh]
theorem Num_does (v : Nat) (r : Rd) (hk : r.ok) (hs : r.s.length < 4294967296) : Does Tryz.prog G 136 [.ptr 0 v 0 0] [some (rdO v r)] fun ae O => ae = .ret (.int .i64 ((numRd r).1 : Nat)) ∧ O = [some (rdO v (numRd r).2)] := by
  obtain ⟨s, p, bad⟩ := r
  have hk : p ≤ s.length := hk
  have hs : s.length < 4294967296 := hs
  refine Does.bodyA tab Tryz.func136 rfl rfl ?_
  refine AC.step tab ?_
  refine gos ?_
  refine AC.step tab ?_
  refine gos ?_
  refine AC.cutF tab (fun e h => ∃ (n q : Nat) (bd : Bool), (numRd ⟨s, p, bad⟩).2 = ⟨s, q, bd⟩ ∧ (numRd ⟨s, p, bad⟩).1 = (if bd then 0 else n) ∧
    e = ([.ptr 0 v 0 0] ++ List.replicate 2 .any ++ [.int .i64 n] ++ List.replicate 65 .any) ∧ h = [some (rdO v ⟨s, q, bd⟩)]) ?_ ?_
  · cases bad
    case true =>
      refine gos ?_
      refine AC.rounds tab 1 ?_
      refine gos ?_
      exact ⟨_, 1, fgts, 0, p, true, rfl, rfl, rfl, rfl⟩
    refine gos ?_
    refine AC.loopC tab (fun f e h => ∃ (sh acc q : Nat), sh + 7 * f = 70 ∧ 0 < f ∧ q ≤ s.length ∧ acc < 2 ^ sh ∧ numRd ⟨s, p, false⟩ = numG f ⟨s, q, false⟩ acc sh ∧
        e = ([.ptr 0 v 0 0] ++ List.replicate 2 .any ++ [.int .i64 acc, .int .i64 sh] ++ List.replicate 64 .any) ∧ h = [some (rdO v ⟨s, q, false⟩)])
      10 ⟨_, fgts, 0, 0, p, rfl, by omega, hk, by simp, rfl, rfl, rfl⟩ ?_
    rintro f e h ⟨sh, acc, q, hf, hf0, hq, hacc, hF, rfl, rfl⟩
    obtain ⟨f, rfl⟩ : ∃ g, f = g + 1 := ⟨f - 1, by omega⟩
    rw [numG] at hF
    simp only at hF
    refine gos ?_
    refine DrawW.L ?_
    refine gos ?_
    by_cases hlt : q < s.length
    case neg =>
      have hq' : q = s.length := by omega
      rw [List.getElem?_eq_none (by omega)] at hF
      refine CmpW.t (by simp; omega) ?_
      refine gos ?_
      exact ⟨_, 1, fgts, acc, q, true, by rw [hF], by rw [hF]; rfl, rfl, rfl⟩
    refine CmpW.f (by simp; omega) ?_
    refine gos ?_
    obtain ⟨b, hb⟩ : ∃ c, s[q]? = some c := ⟨_, List.getElem?_eq_getElem hlt⟩
    rw [hb] at hF
    simp only at hF
    by_cases h56 : 56 < sh
    · rw [if_pos h56] at hF
      refine CmpW.T ?_
      refine gos ?_
      exact ⟨_, 1, fgts, acc, q, true, by rw [hF], by rw [hF]; rfl, rfl, rfl⟩
    rw [if_neg h56] at hF
    refine CmpW.N ?_
    refine gos ?_
    refine DrawW.L ?_
    refine gos ?_
    refine And.intro (by omega) ⟨b, hb, ?_⟩
    refine gos ?_
    refine And.intro (by omega) ?_
    refine gos ?_
    have hX := rshl (b := b) (show sh ≤ 56 by omega) hacc
    by_cases h128 : b.toNat < 128
    · rw [if_pos h128] at hF
      refine CmpW.T ?_
      have hmod : b.toNat % 128 = b.toNat := Nat.mod_eq_of_lt h128
      rw [hmod] at hX
      rw [hX]
      refine gos ?_
      by_cases hb0 : b = 0
      · subst hb0
        refine CmpW.t (by simp) ?_
        refine gos ?_
        by_cases hs0 : 0 < sh
        · rw [if_pos ⟨rfl, hs0⟩] at hF
          refine CmpW.T ?_
          refine gos ?_
          exact ⟨_, 1, fgts, _, q + 1, true, by rw [hF], by rw [hF]; rfl, rfl, rfl⟩
        · rw [if_neg (fun h => hs0 h.2)] at hF
          refine CmpW.N ?_
          refine gos ?_
          exact ⟨_, 1, fgts, _, q + 1, false, by rw [hF], by rw [hF]; rfl, rfl, rfl⟩
      · rw [if_neg (fun h => hb0 h.1)] at hF
        refine CmpW.f (by simp; exact fun h => hb0 (UInt8.toNat_inj.1 h)) ?_
        refine gos ?_
        exact ⟨_, 1, fgts, _, q + 1, false, by rw [hF], by rw [hF]; rfl, rfl, rfl⟩
    · rw [if_neg h128] at hF
      refine CmpW.N ?_
      rw [hX]
      refine gos ?_
      exact ⟨f, _, 1, by omega, fgts, sh + 7, _, q + 1, by omega, by omega, by omega, acc_lt hacc (Nat.mod_lt _ (by decide)), hF, rfl, rfl⟩
  rintro e h ⟨n, q, bd, e1, e2, rfl, rfl⟩
  rw [e1, e2]
  cases bd
  all_goals
    refine AC.go tab ?_
    refine gos ?_
    refine RetW.plain (by simp) ?_
    exact ⟨rfl, rfl⟩
theorem Text_does (v : Nat) (r : Rd) (hk : r.ok) (hs : r.s.length < 4294967296) : Does Tryz.prog G 137 [.ptr 0 v 0 0] [some (rdO v r)] fun ae O => ae = .ret (.str (textRd r).1) ∧ O = [some (rdO v (textRd r).2)] := by
  obtain ⟨k1, k2⟩ := num_keeps r hk
  have hlt := numRd_lt r
  have hd := Num_does (G := G) v r hk hs
  have e0 : textRd r = if (numRd r).2.bad = true ∨ (numRd r).2.s.length - (numRd r).2.p < (numRd r).1 then ([], { (numRd r).2 with bad := true }) else (((numRd r).2.s.drop (numRd r).2.p).take (numRd r).1, { (numRd r).2 with p := (numRd r).2.p + (numRd r).1 }) := rfl
  rw [e0]
  rw [← k2] at hs
  generalize numRd r = x at *
  obtain ⟨n, s, q, bd⟩ := x
  simp only at *
  have k1 : q ≤ s.length := k1
  refine Does.bodyA tab Tryz.func137 rfl rfl ?_
  refine AC.step tab ?_
  refine gos ?_
  refine AC.step tab ?_
  refine gos ?_
  refine CallW.meth 0 hd rfl rfl rfl rfl rfl rfl ?_
  refine gos ?_
  refine AC.step tab ?_
  refine gos ?_
  refine DrawW.L ?_
  refine gos ?_
  by_cases hl : s.length - q < n
  · refine CmpW.T ?_
    refine gos ?_
    refine AC.go tab ?_
    refine gos ?_
    refine RetW.plain (by simp) ?_
    rw [if_pos (.inr hl)]
    exact ⟨rfl, rfl⟩
  refine CmpW.N ?_
  cases bd
  · refine gos ?_
    refine AC.go tab ?_
    refine gos ?_
    refine DrawW.L ?_
    refine gos ?_
    refine And.intro (And.intro (by dsimp only; omega) (And.intro (by dsimp only; omega) (by dsimp only; omega))) ?_
    refine gos ?_
    refine RetW.plain (by simp) ?_
    rw [if_neg (by rintro (h | h); exact Bool.noConfusion h; omega)]
    refine ⟨?_, rfl⟩
    congr 2
    show List.drop ((q : Int) + n - n).toNat (List.take ((q : Int) + n).toNat s) = List.take n (List.drop q s)
    rw [show ((q : Int) + n - n).toNat = q by omega, show ((q : Int) + n).toNat = q + n by omega, List.drop_take, Nat.add_sub_cancel_left]
  · refine gos ?_
    refine AC.go tab ?_
    refine gos ?_
    refine RetW.plain (by simp) ?_
    rw [if_pos (.inl rfl)]
    exact ⟨rfl, rfl⟩
theorem Count_does (v : Nat) (r : Rd) (m : Nat) (hm : m < 9223372036854775808) (hk : r.ok) (hs : r.s.length < 4294967296) : Does Tryz.prog G 138 [.ptr 0 v 0 0, .int .i64 m] [some (rdO v r)] fun ae O => ae = .ret (.int .i64 ((countRd m r).1 : Nat)) ∧ O = [some (rdO v (countRd m r).2)] := by
  have hlt := numRd_lt r
  have hd := Num_does (G := G) v r hk hs
  have e0 : countRd m r = if m < (numRd r).1 then (0, { (numRd r).2 with bad := true }) else numRd r := rfl
  rw [e0]
  generalize numRd r = x at *
  obtain ⟨n, s, q, bd⟩ := x
  refine Does.body tab Tryz.func138 rfl rfl ?_
  refine gos ?_
  refine CallW.meth 0 hd rfl rfl rfl rfl rfl rfl ?_
  refine gos ?_
  by_cases hl : m < n
  · refine CmpW.T ?_
    refine gos ?_
    refine RetW.plain (by simp) ?_
    rw [if_pos hl]
    exact ⟨rfl, rfl⟩
  · refine CmpW.N ?_
    refine gos ?_
    refine RetW.plain (by simp) ?_
    rw [if_neg hl]
    exact ⟨rfl, rfl⟩
end Go.Proofs.YtjjppmbojcgdgaaGreatDoor

namespace Go.Proofs.YtjjppmbojcgdgaaGreatDoor
open Go Go.Abs
attribute [local irreducible] DrawW CallW RetW AC Does CmpW
variable {G : Globs}
theorem byteEs_snoc (l : List UInt8) (b : UInt8) : byteEs' (l ++ [b]) = byteEs' l ++ [[.int .u8 (b.toNat : Int)]] := by simp [byteEs']
theorem byteEs_app (l s : List UInt8) : byteEs' (l ++ s) = byteEs' l ++ byteEs' s := by simp [byteEs']
theorem hi128 {m : Nat} (hm : m < 9223372036854775808) : IntKind.u8.wrap (IntKind.i64.wrap (BitVec.ofInt IntKind.i64.bits (IntKind.i64.wrap (BitVec.ofInt IntKind.i64.bits (m : Int) &&& BitVec.ofInt IntKind.i64.bits 127).toNat) ||| BitVec.ofInt IntKind.i64.bits 128).toNat) = ((UInt8.ofNat (m % 128 + 128)).toNat : Int) := by
  rw [and127 hm, or128 (Nat.mod_lt _ (by decide)), byte_of (by omega)]
theorem shr7 (m : Nat) : Int.fdiv (m : Int) (2 ^ (min (Int.toNat 7) IntKind.i64.bits)) = ((m / 128 : Nat) : Int) := by
  rw [show (2 : Int) ^ (min (Int.toNat 7) IntKind.i64.bits) = ((128 : Nat) : Int) from rfl, Int.fdiv_eq_ediv_of_nonneg _ (by omega)]; rfl
theorem WNum_does (v rv : Nat) (n : Int) (l : List UInt8) (hn : n < 9223372036854775808) (hl : l.length < 100000) : Does Tryz.prog G 77 [.ptr 0 v 0 0, .int .i64 n] [some (wrtO 171 v (.sl 1 rv)), some ⟨rv, 5, 1, byteEs' l⟩]
    fun ae O => ae = .ret (.ptr 0 v 0 0) ∧ ∃ rv', O = [some (wrtO 171 v (.sl 1 rv')), some ⟨rv', 5, 1, byteEs' (l ++ numW n)⟩] := by
  have hmax : (if (0 : Int) > n then (0 : Int) else n) = ((n.toNat : Nat) : Int) := by omega
  have hN : n.toNat < 9223372036854775808 := by omega
  have h70 : n.toNat < 2 ^ (7 * 10) := Nat.lt_trans hN (by decide)
  refine Does.bodyA tab Tryz.func77 rfl rfl ?_
  refine AC.step tab ?_
  refine gos ?_
  refine AC.step tab ?_
  refine gos ?_
  rw [hmax]
  refine gos ?_
  refine AC.cutF tab (fun e h => ∃ (k m rv' : Nat) (l' : List UInt8), k ≤ 9 ∧ m ≤ 127 ∧ l'.length ≤ l.length + 10 ∧ l ++ numW n = l' ++ [UInt8.ofNat m] ∧
    e = ([.ptr 0 v 0 0, .int .i64 m] ++ List.replicate 34 .any) ∧ h = [some (wrtO 171 v (.sl 1 rv')), some ⟨rv', 5, 1, byteEs' l'⟩]) ?_ ?_
  · refine gos ?_
    refine AC.loopC tab (fun f e h => ∃ (m rv' : Nat) (l' : List UInt8), 0 < f ∧ m < 2 ^ (7 * f) ∧ m < 9223372036854775808 ∧ l'.length + f = l.length + 10 ∧ l ++ numW n = l' ++ numL f m ∧
        e = ([.ptr 0 v 0 0, .int .i64 m] ++ List.replicate 34 .any) ∧ h = [some (wrtO 171 v (.sl 1 rv')), some ⟨rv', 5, 1, byteEs' l'⟩])
      10 ⟨_, fgts, n.toNat, rv, l, by omega, h70, hN, rfl, rfl, rfl, rfl⟩ ?_
    rintro f e h ⟨m, rv', l', hf0, hm, hm2, hlen, hF, rfl, rfl⟩
    obtain ⟨f, rfl⟩ : ∃ g, f = g + 1 := ⟨f - 1, by omega⟩
    refine gos ?_
    by_cases hlt : m ≤ 127
    · refine CmpW.f (by simp; omega) ?_
      refine gos ?_
      rw [numL, if_pos hlt] at hF
      exact ⟨_, 2, fgts, 0, m, rv', l', by omega, hlt, by omega, hF, rfl, rfl⟩
    · refine CmpW.t (by simp; omega) ?_
      rw [numL, if_neg hlt] at hF
      have hf1 : 0 < f := by
        rcases Nat.eq_zero_or_pos f with h | h
        · subst h; simp at hm; omega
        · exact h
      have hm' : m / 128 < 2 ^ (7 * f) := by
        rw [Nat.div_lt_iff_lt_mul (by decide)]
        have : 7 * (f + 1) = 7 * f + 7 := by omega
        rw [this, Nat.pow_add] at hm
        exact hm
      have hB := hi128 hm2
      have hS := shr7 m
      have hbl : (byteEs' l').length = l'.length := by simp [byteEs']
      refine gos ?_
      intro v3
      refine gos ?_
      refine And.intro (And.intro (fun y hy => by rcases List.mem_singleton.1 hy with rfl; rfl) (fun y hy => by rcases List.mem_singleton.1 hy with rfl; rfl)) ?_; refine And.intro (And.intro rfl trivial) ?_
      refine gos ?_
      refine And.intro (by simp [byteEs', maxLen, ti5]; omega) ?_
      intro v4
      refine gos ?_
      refine And.intro (by decide) ⟨((m / 128 : Nat) : Int), hS, ?_⟩
      refine gos ?_
      refine ⟨f, _, 2, by omega, fgts, m / 128, v4, l' ++ [UInt8.ofNat (m % 128 + 128)], hf1, hm', by omega, by simp; omega, by rw [hF]; simp, rfl, ?_⟩
      rw [byteEs_snoc, ← hB]
      rfl
  rintro e h ⟨k, m, rv', l', hk, hm, hlen, hF, rfl, rfl⟩
  have hB : IntKind.u8.wrap (m : Int) = ((UInt8.ofNat m).toNat : Int) := byte_of (by omega)
  refine AC.go tab ?_
  refine gos ?_
  intro v3
  refine gos ?_
  refine And.intro (And.intro (fun y hy => by rcases List.mem_singleton.1 hy with rfl; rfl) (fun y hy => by rcases List.mem_singleton.1 hy with rfl; rfl)) ?_; refine And.intro (And.intro rfl trivial) ?_
  refine gos ?_
  refine And.intro (by simp [byteEs', maxLen, ti5]; omega) ?_
  intro v4
  refine gos ?_
  refine RetW.plain (by simp) ?_
  refine ⟨rfl, v4, ?_⟩
  rw [hF, byteEs_snoc, ← hB]
  rfl
theorem WText_does (v rv : Nat) (s l : List UInt8) (hs : s.length < 100000) (hl : l.length < 90000) : Does Tryz.prog G 76 [.ptr 0 v 0 0, .str s] [some (wrtO 171 v (.sl 1 rv)), some ⟨rv, 5, 1, byteEs' l⟩]
    fun ae O => ae = .ret (.ptr 0 v 0 0) ∧ ∃ rv', O = [some (wrtO 171 v (.sl 1 rv')), some ⟨rv', 5, 1, byteEs' (l ++ textW s)⟩] := by
  have h10 := len_numL 10 (s.length : Int).toNat
  refine Does.bodyA tab Tryz.func76 rfl rfl ?_
  refine AC.step tab ?_
  refine gos ?_
  refine AC.step tab ?_
  refine gos ?_
  refine CallW.wrt (i := 0) (j := 1) (by decide) rfl rfl (WNum_does v rv s.length l (by omega) (by omega)) rfl (fun rv' => ?_)
  refine gos ?_
  refine AC.go tab ?_
  refine gos ?_
  refine And.intro (by have h11 := len_numL 10 s.length; simp [byteEs', numW]; omega) ?_
  intro v4
  refine gos ?_
  refine RetW.plain (by simp) ?_
  exact ⟨rfl, v4, by simp [byteEs', textW]; rfl⟩
theorem WString_does (v rv : Nat) (l : List UInt8) (hl : l.length < 200000) : Does Tryz.prog G 80 [.ptr 0 v 0 0] [some (wrtO 171 v (.sl 1 rv)), some ⟨rv, 5, 1, byteEs' l⟩]
    fun ae O => ae = .ret (.str l) ∧ O = [some (wrtO 171 v (.sl 1 rv)), some ⟨rv, 5, 1, byteEs' l⟩] := by
  refine Does.bodyA tab Tryz.func80 rfl rfl ?_
  refine AC.step tab ?_
  refine gos ?_
  refine AC.go tab ?_
  refine gos ?_
  dsimp only
  refine gos ?_
  refine RetW.plain (by simp) ?_
  exact ⟨rfl, rfl⟩
end Go.Proofs.YtjjppmbojcgdgaaGreatDoor

namespace Go.Proofs.YtjjppmbojcgdgaaGreatDoor
open Go Go.Abs
attribute [local irreducible] DrawW CallW RetW AC Does CmpW
variable {G : Globs}
theorem flat_take_le {α : Type} (w : α → List UInt8) (l : List α) (i : Nat) : ((l.take i).flatMap w).length ≤ (l.flatMap w).length := by
  have h : (l.flatMap w).length = ((l.take i).flatMap w).length + ((l.drop i).flatMap w).length := by
    rw [← List.length_append, ← List.flatMap_append, List.take_append_drop]
  omega
theorem flat_take_succ {α : Type} (w : α → List UInt8) {l : List α} {i : Nat} {x : α} (h : l[i]? = some x) : (l.take (i + 1)).flatMap w = (l.take i).flatMap w ++ w x := by
  rw [List.take_add_one, h]; simp
theorem listW_len {α : Type} (w : α → List UInt8) (l : List α) : (listW w l).length = (numW l.length).length + (l.flatMap w).length := by rw [listW, List.length_append]
theorem layTexts_does (v rv : Nat) (ts : List TTxt) (l : List UInt8) (hb : belT ts = true) (hl : l.length + (listW txtW ts).length ≤ 65536) : Does Tryz.prog G 79 [.ptr 0 v 0 0, txtL ts] [some (wrtO 171 v (.sl 1 rv)), some ⟨rv, 5, 1, byteEs' l⟩]
    fun ae O => ae = .ret (.tuple []) ∧ ∃ rv', O = [some (wrtO 171 v (.sl 1 rv')), some ⟨rv', 5, 1, byteEs' (l ++ listW txtW ts)⟩] := by
  have hll : (ts.map encT).length = ts.length := by simp
  have hL := listW_len txtW ts
  have hfl := len_flat (w := txtW) txtW_pos ts
  refine Does.bodyA tab Tryz.func79 rfl rfl ?_
  refine AC.step tab ?_
  refine gos ?_
  rw [hll]
  refine CallW.wrt (i := 0) (j := 1) (by decide) rfl rfl (WNum_does v rv ts.length l (by omega) (by omega)) rfl (fun rv0 => ?_)
  refine gos ?_
  refine AC.step tab ?_
  refine gos ?_
  rw [hll]
  refine AC.blk ?_
  refine AC.loopA (fun f e h => ∃ (i rv' : Nat), f + i = ts.length + 1 ∧ i ≤ ts.length ∧ e = ([.ptr 0 v 0 0] ++ List.replicate 9 .any ++ [.fsl (ts.map encT), .int .i64 ts.length, .int .i64 i] ++ List.replicate 11 .any) ∧
      h = [some (wrtO 171 v (.sl 1 rv')), some ⟨rv', 5, 1, byteEs' (l ++ numW ts.length ++ (ts.take i).flatMap txtW)⟩]) (ts.length + 1) ⟨_, fgts, 0, rv0, by omega, by omega, rfl, by simp⟩ ?_
  rintro f e h ⟨i, rv', hf, hi, rfl, rfl⟩
  refine AC.step tab ?_
  refine gos ?_
  by_cases hlt : i < ts.length
  · obtain ⟨x, hx⟩ : ∃ d, ts[i]? = some d := ⟨_, List.getElem?_eq_getElem hlt⟩
    have hc : x.cat < 9223372036854775808 := by
      have := List.all_eq_true.1 hb x (List.mem_of_getElem? hx)
      simpa [belN] using this
    have htk := flat_take_succ txtW hx
    have h1 := flat_take_le txtW ts (i + 1)
    have h2 := flat_take_le txtW ts i
    rw [htk, List.length_append] at h1
    have h3 : (txtW x).length = (numW x.cat).length + (textW x.text).length := by rw [txtW, List.length_append]
    have h4 : x.text.length ≤ (textW x.text).length := by rw [textW, List.length_append]; omega
    refine CmpW.T ?_
    refine gos ?_
    refine AC.step tab ?_
    refine gos ?_
    refine AC.seqA ?_
    refine AC.blk ?_
    refine AC.step tab ?_
    refine gos ?_
    refine And.intro (encT_two ts) (And.intro (by omega) ⟨encT x, by rw [Int.toNat_natCast]; exact map_get hx, ?_⟩)
    refine gos ?_
    intro v2
    refine gos ?_
    refine AC.wk (Wk.ptr (k := 5) (i := 2) rfl rfl rfl rfl rfl) ?_
    refine AC.go tab ?_
    refine DrawW.P (.take 0 (.take 1 (.takeF 2 (.take 4 (.takeF 5 (.take 3 (.take 6 .done))))))) ?_
    refine gos ?_
    refine CallW.wrt (i := 0) (j := 1) (by decide) rfl rfl (WNum_does v rv' x.cat _ hc (by simp only [List.length_append]; omega)) rfl (fun rv2 => ?_)
    refine gos ?_
    refine CallW.wrt (i := 0) (j := 1) (by decide) rfl rfl (WText_does v rv2 x.text _ (by omega) (by simp only [List.length_append]; omega)) rfl (fun rv3 => ?_)
    refine gos ?_
    refine AC.go tab ?_
    refine gos ?_
    exact ⟨f - 1, _, 2, by omega, fgts, i + 1, rv3, by omega, by omega, rfl, by rw [htk]; simp only [txtW, List.append_assoc]; rfl⟩
  · refine CmpW.N ?_
    refine gos ?_
    refine AC.go tab ?_
    refine gos ?_
    have : i = ts.length := by omega
    subst this
    refine RetW.plain (by simp) ?_
    refine ⟨rfl, rv', ?_⟩
    simp only [List.take_length, listW, List.append_assoc]
    rfl
theorem layRows_does (v rv : Nat) (ts : List TRow) (l : List UInt8) (hb : belR ts = true) (hl : l.length + (listW rowW ts).length ≤ 65536) : Does Tryz.prog G 78 [.ptr 0 v 0 0, rowL ts] [some (wrtO 171 v (.sl 1 rv)), some ⟨rv, 5, 1, byteEs' l⟩]
    fun ae O => ae = .ret (.tuple []) ∧ ∃ rv', O = [some (wrtO 171 v (.sl 1 rv')), some ⟨rv', 5, 1, byteEs' (l ++ listW rowW ts)⟩] := by
  have hll : (ts.map encR).length = ts.length := by simp
  have hL := listW_len rowW ts
  have hfl := len_flat (w := rowW) rowW_pos ts
  refine Does.bodyA tab Tryz.func78 rfl rfl ?_
  refine AC.step tab ?_
  refine gos ?_
  rw [hll]
  refine CallW.wrt (i := 0) (j := 1) (by decide) rfl rfl (WNum_does v rv ts.length l (by omega) (by omega)) rfl (fun rv0 => ?_)
  refine gos ?_
  refine AC.step tab ?_
  refine gos ?_
  rw [hll]
  refine AC.blk ?_
  refine AC.loopA (fun f e h => ∃ (i rv' : Nat), f + i = ts.length + 1 ∧ i ≤ ts.length ∧ e = ([.ptr 0 v 0 0] ++ List.replicate 9 .any ++ [.fsl (ts.map encR), .int .i64 ts.length, .int .i64 i] ++ List.replicate 12 .any) ∧
      h = [some (wrtO 171 v (.sl 1 rv')), some ⟨rv', 5, 1, byteEs' (l ++ numW ts.length ++ (ts.take i).flatMap rowW)⟩]) (ts.length + 1) ⟨_, fgts, 0, rv0, by omega, by omega, rfl, by simp⟩ ?_
  rintro f e h ⟨i, rv', hf, hi, rfl, rfl⟩
  refine AC.step tab ?_
  refine gos ?_
  by_cases hlt : i < ts.length
  · obtain ⟨x, hx⟩ : ∃ d, ts[i]? = some d := ⟨_, List.getElem?_eq_getElem hlt⟩
    have hxb := List.all_eq_true.1 hb x (List.mem_of_getElem? hx)
    rw [Bool.and_eq_true] at hxb
    have hc : x.mag < 9223372036854775808 := by simpa [belN] using hxb.1
    have htk := flat_take_succ rowW hx
    have h1 := flat_take_le rowW ts (i + 1)
    have h2 := flat_take_le rowW ts i
    rw [htk, List.length_append] at h1
    have h3 : (rowW x).length = (numW x.mag).length + (listW txtW x.texts).length := by rw [rowW, List.length_append]
    refine CmpW.T ?_
    refine gos ?_
    refine AC.step tab ?_
    refine gos ?_
    refine AC.seqA ?_
    refine AC.blk ?_
    refine AC.step tab ?_
    refine gos ?_
    refine And.intro (encR_two ts) (And.intro (by omega) ⟨encR x, by rw [Int.toNat_natCast]; exact map_get hx, ?_⟩)
    refine gos ?_
    intro v2
    refine gos ?_
    refine AC.step tab ?_
    refine gos ?_
    refine CallW.wrt (i := 0) (j := 1) (by decide) rfl rfl (WNum_does v rv' x.mag _ hc (by simp only [List.length_append]; omega)) rfl (fun rv2 => ?_)
    refine gos ?_
    refine AC.go tab ?_
    refine gos ?_
    refine CallW.wrt (i := 0) (j := 1) (by decide) rfl rfl (layTexts_does v rv2 x.texts _ hxb.2 (by simp only [List.length_append]; omega)) rfl (fun rv3 => ?_)
    refine gos ?_
    refine AC.go tab ?_
    refine gos ?_
    exact ⟨f - 1, _, 2, by omega, fgts, i + 1, rv3, by omega, by omega, rfl, by rw [htk]; simp only [rowW, List.append_assoc]; rfl⟩
  · refine CmpW.N ?_
    refine gos ?_
    refine AC.go tab ?_
    refine gos ?_
    have : i = ts.length := by omega
    subst this
    refine RetW.plain (by simp) ?_
    refine ⟨rfl, rv', ?_⟩
    simp only [List.take_length, listW, List.append_assoc]
    rfl
end Go.Proofs.YtjjppmbojcgdgaaGreatDoor

namespace Go.Proofs.YtjjppmbojcgdgaaGreatDoor
open Go Go.Abs
attribute [local irreducible] DrawW CallW RetW AC Does CmpW
variable {G : Globs}
def rcO (vc v : Nat) : AObj := ⟨vc, 237, 1, [[.ptr 0 v 0 0]]⟩
theorem encT_closed (x : TTxt) : closedL (encT x) = true := rfl
theorem encR_closed (x : TRow) : closedL (encR x) = true := rfl
theorem encCu_closed (x : TCur) : closedL (encCu x) = true := rfl
theorem encU_closed (x : TUnt) : closedL (encU x) = true := rfl
theorem clLL_map {α : Type} {f : α → List AV} (h : ∀ x, closedL (f x) = true) : ∀ l : List α, closedLL (l.map f) = true
  | [] => rfl
  | x :: l => by
    have := clLL_map h l
    simp [closedLL, h x, this]
theorem listG_zero {α : Type} (one : Rd → α × Rd) (r : Rd) : listG one 0 r = ([], r) := rfl
theorem listG_bad {α : Type} (one : Rd → α × Rd) (n : Nat) {r : Rd} (h : r.bad = true) : listG one n r = ([], r) := by
  cases n with
  | zero => rfl
  | succ n => rw [listG, if_pos h]
theorem listG_go {α : Type} (one : Rd → α × Rd) (n : Nat) {r : Rd} (h : r.bad = false) : listG one (n + 1) r = ((one r).1 :: (listG one n (one r).2).1, (listG one n (one r).2).2) := by
  rw [listG, if_neg (by simp [h])]
theorem listT_does (v vc : Nat) (fn : FuncId) (one : Rd → TTxt × Rd) (hk1 : Keeps one)
    (hone : ∀ r : Rd, r.ok → r.s.length < 4294967296 → Does Tryz.prog G fn ([] ++ [] ++ [.ptr 1 vc 0 0]) [some (rdO v r), some (rcO vc v)] fun ae O => ae = .ret (.agg (encT (one r).1)) ∧ O = [some (rdO v (one r).2), some (rcO vc v)])
    (r : Rd) (hk : r.ok) (hs : r.s.length < 4294967296) : Does Tryz.prog G 230 [.ptr 0 v 0 0, .func (.func fn) [] [.ptr 1 vc 0 0]] [some (rdO v r), some (rcO vc v)]
    fun ae O => ae = .ret (.fsl ((listRd one r).1.map encT)) ∧ O = [some (rdO v (listRd one r).2), some (rcO vc v)] := by
  obtain ⟨k1, k2⟩ := count_keeps 65536 r hk
  have kle := count_le 65536 r
  refine Does.bodyA tab Tryz.func230 rfl rfl ?_
  refine AC.step tab ?_
  refine gos ?_
  refine AC.step tab ?_
  refine gos ?_
  refine AC.own 5 145 2 rfl (by omega) fun v0 => ?_
  refine AC.cutF tab (fun e h => ∃ va, e = (List.replicate 5 .any ++ [.sl 2 va] ++ List.replicate 17 .any) ∧ h = [some (rdO v (listRd one r).2), some (rcO vc v), some ⟨va, 145, 2, (listRd one r).1.map encT⟩]) ?_ ?_
  · refine gos ?_
    refine CallW.meth 0 (Count_does v r 65536 (by omega) hk hs) rfl rfl rfl rfl rfl rfl ?_
    have hL : listRd one r = listG one (countRd 65536 r).1 (countRd 65536 r).2 := rfl
    generalize countRd 65536 r = x at *
    obtain ⟨n0, r0⟩ := x
    simp only at k1 k2 kle hL
    rw [← k2] at hs
    clear k2 hk
    refine gos ?_
    refine AC.loopC tab (fun f e h => ∃ (n va : Nat) (acc : List TTxt) (r' : Rd), f = n + 1 ∧ r'.ok ∧ r'.s.length < 4294967296 ∧ acc.length + n ≤ 65536 ∧ listRd one r = (acc ++ (listG one n r').1, (listG one n r').2) ∧
        e = ([.ptr 0 v 0 0, .func (.func fn) [] [.ptr 1 vc 0 0]] ++ List.replicate 3 .any ++ [.sl 2 va, .int .i64 n] ++ List.replicate 16 .any) ∧ h = [some (rdO v r'), some (rcO vc v), some ⟨va, 145, 2, acc.map encT⟩])
      (n0 + 1) ⟨_, fgts, n0, v0, [], r0, rfl, k1, hs, by simpa using kle, by rw [hL]; rfl, rfl, rfl⟩ ?_
    rintro f e h ⟨n, va, acc, r', hf, ok', hs', hacc, hF, rfl, rfl⟩
    refine gos ?_
    cases n with
    | zero =>
      rw [listG_zero] at hF
      refine CmpW.f rfl ?_
      refine gos ?_
      exact ⟨_, 3, fgts, va, rfl, by rw [hF, List.append_nil]; rfl⟩
    | succ n =>
    refine CmpW.T ?_
    refine gos ?_
    refine CallW.meth 0 (OK_does v r') rfl rfl rfl rfl rfl rfl ?_
    cases hb : r'.bad with
    | true =>
      rw [listG_bad _ _ hb] at hF
      refine gos ?_
      exact ⟨_, 3, fgts, va, rfl, by rw [hF, List.append_nil]; rfl⟩
    | false =>
    rw [listG_go _ _ hb] at hF
    refine gos ?_
    obtain ⟨o1, o2⟩ := hk1 r' ok'
    refine CallW.rc (i := 0) (j := 1) (by decide) rfl rfl (hone r' ok' hs') rfl rfl rfl rfl rfl ?_
    generalize one r' = y at *
    obtain ⟨y, r2⟩ := y
    simp only at o1 o2 hF
    rw [← o2] at hs'
    have hal : (acc.map encT).length = acc.length := by simp
    refine gos ?_
    intro v3
    (repeat (first | refine gof ?_ | refine fun (vv : Nat) => ?_))
    rw [show ((n + 1 : Nat) : Int) - 1 = (n : Int) by omega]
    exact ⟨n + 1, _, 3, by omega, fgts, n, vv, acc ++ [y], r2, rfl, o1, hs', by simp; omega, by rw [hF]; simp, rfl, by rw [List.map_append]; rfl⟩
  rintro e h ⟨va, rfl, rfl⟩
  refine AC.go tab ?_
  refine gos ?_
  refine RetW.wk (r' := .fsl ((listRd one r).1.map encT)) (by simp) ?_ (Wk.row (k := 0) (i := 2) (o := ⟨va, 145, 2, (listRd one r).1.map encT⟩) rfl rfl rfl (clLL_map encT_closed _)) ?_
  · rfl
  exact ⟨rfl, rfl⟩
theorem listR_does (v vc : Nat) (fn : FuncId) (one : Rd → TRow × Rd) (hk1 : Keeps one)
    (hone : ∀ r : Rd, r.ok → r.s.length < 4294967296 → Does Tryz.prog G fn ([] ++ [] ++ [.ptr 1 vc 0 0]) [some (rdO v r), some (rcO vc v)] fun ae O => ae = .ret (.agg (encR (one r).1)) ∧ O = [some (rdO v (one r).2), some (rcO vc v)])
    (r : Rd) (hk : r.ok) (hs : r.s.length < 4294967296) : Does Tryz.prog G 227 [.ptr 0 v 0 0, .func (.func fn) [] [.ptr 1 vc 0 0]] [some (rdO v r), some (rcO vc v)]
    fun ae O => ae = .ret (.fsl ((listRd one r).1.map encR)) ∧ O = [some (rdO v (listRd one r).2), some (rcO vc v)] := by
  obtain ⟨k1, k2⟩ := count_keeps 65536 r hk
  have kle := count_le 65536 r
  refine Does.bodyA tab Tryz.func227 rfl rfl ?_
  refine AC.step tab ?_
  refine gos ?_
  refine AC.step tab ?_
  refine gos ?_
  refine AC.own 5 148 2 rfl (by omega) fun v0 => ?_
  refine AC.cutF tab (fun e h => ∃ va, e = (List.replicate 5 .any ++ [.sl 2 va] ++ List.replicate 17 .any) ∧ h = [some (rdO v (listRd one r).2), some (rcO vc v), some ⟨va, 148, 2, (listRd one r).1.map encR⟩]) ?_ ?_
  · refine gos ?_
    refine CallW.meth 0 (Count_does v r 65536 (by omega) hk hs) rfl rfl rfl rfl rfl rfl ?_
    have hL : listRd one r = listG one (countRd 65536 r).1 (countRd 65536 r).2 := rfl
    generalize countRd 65536 r = x at *
    obtain ⟨n0, r0⟩ := x
    simp only at k1 k2 kle hL
    rw [← k2] at hs
    clear k2 hk
    refine gos ?_
    refine AC.loopC tab (fun f e h => ∃ (n va : Nat) (acc : List TRow) (r' : Rd), f = n + 1 ∧ r'.ok ∧ r'.s.length < 4294967296 ∧ acc.length + n ≤ 65536 ∧ listRd one r = (acc ++ (listG one n r').1, (listG one n r').2) ∧
        e = ([.ptr 0 v 0 0, .func (.func fn) [] [.ptr 1 vc 0 0]] ++ List.replicate 3 .any ++ [.sl 2 va, .int .i64 n] ++ List.replicate 16 .any) ∧ h = [some (rdO v r'), some (rcO vc v), some ⟨va, 148, 2, acc.map encR⟩])
      (n0 + 1) ⟨_, fgts, n0, v0, [], r0, rfl, k1, hs, by simpa using kle, by rw [hL]; rfl, rfl, rfl⟩ ?_
    rintro f e h ⟨n, va, acc, r', hf, ok', hs', hacc, hF, rfl, rfl⟩
    refine gos ?_
    cases n with
    | zero =>
      rw [listG_zero] at hF
      refine CmpW.f rfl ?_
      refine gos ?_
      exact ⟨_, 3, fgts, va, rfl, by rw [hF, List.append_nil]; rfl⟩
    | succ n =>
    refine CmpW.T ?_
    refine gos ?_
    refine CallW.meth 0 (OK_does v r') rfl rfl rfl rfl rfl rfl ?_
    cases hb : r'.bad with
    | true =>
      rw [listG_bad _ _ hb] at hF
      refine gos ?_
      exact ⟨_, 3, fgts, va, rfl, by rw [hF, List.append_nil]; rfl⟩
    | false =>
    rw [listG_go _ _ hb] at hF
    refine gos ?_
    obtain ⟨o1, o2⟩ := hk1 r' ok'
    refine CallW.rc (i := 0) (j := 1) (by decide) rfl rfl (hone r' ok' hs') rfl rfl rfl rfl rfl ?_
    generalize one r' = y at *
    obtain ⟨y, r2⟩ := y
    simp only at o1 o2 hF
    rw [← o2] at hs'
    have hal : (acc.map encR).length = acc.length := by simp
    refine gos ?_
    intro v3
    (repeat (first | refine gof ?_ | refine fun (vv : Nat) => ?_))
    rw [show ((n + 1 : Nat) : Int) - 1 = (n : Int) by omega]
    exact ⟨n + 1, _, 3, by omega, fgts, n, vv, acc ++ [y], r2, rfl, o1, hs', by simp; omega, by rw [hF]; simp, rfl, by rw [List.map_append]; rfl⟩
  rintro e h ⟨va, rfl, rfl⟩
  refine AC.go tab ?_
  refine gos ?_
  refine RetW.wk (r' := .fsl ((listRd one r).1.map encR)) (by simp) ?_ (Wk.row (k := 0) (i := 2) (o := ⟨va, 148, 2, (listRd one r).1.map encR⟩) rfl rfl rfl (clLL_map encR_closed _)) ?_
  · rfl
  exact ⟨rfl, rfl⟩
theorem listC_does (v vc : Nat) (fn : FuncId) (one : Rd → TCur × Rd) (hk1 : Keeps one)
    (hone : ∀ r : Rd, r.ok → r.s.length < 4294967296 → Does Tryz.prog G fn ([] ++ [] ++ [.ptr 1 vc 0 0]) [some (rdO v r), some (rcO vc v)] fun ae O => ae = .ret (.agg (encCu (one r).1)) ∧ O = [some (rdO v (one r).2), some (rcO vc v)])
    (r : Rd) (hk : r.ok) (hs : r.s.length < 4294967296) : Does Tryz.prog G 169 [.ptr 0 v 0 0, .func (.func fn) [] [.ptr 1 vc 0 0]] [some (rdO v r), some (rcO vc v)]
    fun ae O => ae = .ret (.fsl ((listRd one r).1.map encCu)) ∧ O = [some (rdO v (listRd one r).2), some (rcO vc v)] := by
  obtain ⟨k1, k2⟩ := count_keeps 65536 r hk
  have kle := count_le 65536 r
  refine Does.bodyA tab Tryz.func169 rfl rfl ?_
  refine AC.step tab ?_
  refine gos ?_
  refine AC.step tab ?_
  refine gos ?_
  refine AC.own 5 150 8 rfl (by omega) fun v0 => ?_
  refine AC.cutF tab (fun e h => ∃ va, e = (List.replicate 5 .any ++ [.sl 2 va] ++ List.replicate 17 .any) ∧ h = [some (rdO v (listRd one r).2), some (rcO vc v), some ⟨va, 150, 8, (listRd one r).1.map encCu⟩]) ?_ ?_
  · refine gos ?_
    refine CallW.meth 0 (Count_does v r 65536 (by omega) hk hs) rfl rfl rfl rfl rfl rfl ?_
    have hL : listRd one r = listG one (countRd 65536 r).1 (countRd 65536 r).2 := rfl
    generalize countRd 65536 r = x at *
    obtain ⟨n0, r0⟩ := x
    simp only at k1 k2 kle hL
    rw [← k2] at hs
    clear k2 hk
    refine gos ?_
    refine AC.loopC tab (fun f e h => ∃ (n va : Nat) (acc : List TCur) (r' : Rd), f = n + 1 ∧ r'.ok ∧ r'.s.length < 4294967296 ∧ acc.length + n ≤ 65536 ∧ listRd one r = (acc ++ (listG one n r').1, (listG one n r').2) ∧
        e = ([.ptr 0 v 0 0, .func (.func fn) [] [.ptr 1 vc 0 0]] ++ List.replicate 3 .any ++ [.sl 2 va, .int .i64 n] ++ List.replicate 16 .any) ∧ h = [some (rdO v r'), some (rcO vc v), some ⟨va, 150, 8, acc.map encCu⟩])
      (n0 + 1) ⟨_, fgts, n0, v0, [], r0, rfl, k1, hs, by simpa using kle, by rw [hL]; rfl, rfl, rfl⟩ ?_
    rintro f e h ⟨n, va, acc, r', hf, ok', hs', hacc, hF, rfl, rfl⟩
    refine gos ?_
    cases n with
    | zero =>
      rw [listG_zero] at hF
      refine CmpW.f rfl ?_
      refine gos ?_
      exact ⟨_, 3, fgts, va, rfl, by rw [hF, List.append_nil]; rfl⟩
    | succ n =>
    refine CmpW.T ?_
    refine gos ?_
    refine CallW.meth 0 (OK_does v r') rfl rfl rfl rfl rfl rfl ?_
    cases hb : r'.bad with
    | true =>
      rw [listG_bad _ _ hb] at hF
      refine gos ?_
      exact ⟨_, 3, fgts, va, rfl, by rw [hF, List.append_nil]; rfl⟩
    | false =>
    rw [listG_go _ _ hb] at hF
    refine gos ?_
    obtain ⟨o1, o2⟩ := hk1 r' ok'
    refine CallW.rc (i := 0) (j := 1) (by decide) rfl rfl (hone r' ok' hs') rfl rfl rfl rfl rfl ?_
    generalize one r' = y at *
    obtain ⟨y, r2⟩ := y
    simp only at o1 o2 hF
    rw [← o2] at hs'
    have hal : (acc.map encCu).length = acc.length := by simp
    refine gos ?_
    intro v3
    (repeat (first | refine gof ?_ | refine fun (vv : Nat) => ?_))
    rw [show ((n + 1 : Nat) : Int) - 1 = (n : Int) by omega]
    exact ⟨n + 1, _, 3, by omega, fgts, n, vv, acc ++ [y], r2, rfl, o1, hs', by simp; omega, by rw [hF]; simp, rfl, by rw [List.map_append]; rfl⟩
  rintro e h ⟨va, rfl, rfl⟩
  refine AC.go tab ?_
  refine gos ?_
  refine RetW.wk (r' := .fsl ((listRd one r).1.map encCu)) (by simp) ?_ (Wk.row (k := 0) (i := 2) (o := ⟨va, 150, 8, (listRd one r).1.map encCu⟩) rfl rfl rfl (clLL_map encCu_closed _)) ?_
  · rfl
  exact ⟨rfl, rfl⟩
theorem listU_does (v vc : Nat) (fn : FuncId) (one : Rd → TUnt × Rd) (hk1 : Keeps one)
    (hone : ∀ r : Rd, r.ok → r.s.length < 4294967296 → Does Tryz.prog G fn ([] ++ [] ++ [.ptr 1 vc 0 0]) [some (rdO v r), some (rcO vc v)] fun ae O => ae = .ret (.agg (encU (one r).1)) ∧ O = [some (rdO v (one r).2), some (rcO vc v)])
    (r : Rd) (hk : r.ok) (hs : r.s.length < 4294967296) : Does Tryz.prog G 172 [.ptr 0 v 0 0, .func (.func fn) [] [.ptr 1 vc 0 0]] [some (rdO v r), some (rcO vc v)]
    fun ae O => ae = .ret (.fsl ((listRd one r).1.map encU)) ∧ O = [some (rdO v (listRd one r).2), some (rcO vc v)] := by
  obtain ⟨k1, k2⟩ := count_keeps 65536 r hk
  have kle := count_le 65536 r
  refine Does.bodyA tab Tryz.func172 rfl rfl ?_
  refine AC.step tab ?_
  refine gos ?_
  refine AC.step tab ?_
  refine gos ?_
  refine AC.own 5 152 2 rfl (by omega) fun v0 => ?_
  refine AC.cutF tab (fun e h => ∃ va, e = (List.replicate 5 .any ++ [.sl 2 va] ++ List.replicate 17 .any) ∧ h = [some (rdO v (listRd one r).2), some (rcO vc v), some ⟨va, 152, 2, (listRd one r).1.map encU⟩]) ?_ ?_
  · refine gos ?_
    refine CallW.meth 0 (Count_does v r 65536 (by omega) hk hs) rfl rfl rfl rfl rfl rfl ?_
    have hL : listRd one r = listG one (countRd 65536 r).1 (countRd 65536 r).2 := rfl
    generalize countRd 65536 r = x at *
    obtain ⟨n0, r0⟩ := x
    simp only at k1 k2 kle hL
    rw [← k2] at hs
    clear k2 hk
    refine gos ?_
    refine AC.loopC tab (fun f e h => ∃ (n va : Nat) (acc : List TUnt) (r' : Rd), f = n + 1 ∧ r'.ok ∧ r'.s.length < 4294967296 ∧ acc.length + n ≤ 65536 ∧ listRd one r = (acc ++ (listG one n r').1, (listG one n r').2) ∧
        e = ([.ptr 0 v 0 0, .func (.func fn) [] [.ptr 1 vc 0 0]] ++ List.replicate 3 .any ++ [.sl 2 va, .int .i64 n] ++ List.replicate 16 .any) ∧ h = [some (rdO v r'), some (rcO vc v), some ⟨va, 152, 2, acc.map encU⟩])
      (n0 + 1) ⟨_, fgts, n0, v0, [], r0, rfl, k1, hs, by simpa using kle, by rw [hL]; rfl, rfl, rfl⟩ ?_
    rintro f e h ⟨n, va, acc, r', hf, ok', hs', hacc, hF, rfl, rfl⟩
    refine gos ?_
    cases n with
    | zero =>
      rw [listG_zero] at hF
      refine CmpW.f rfl ?_
      refine gos ?_
      exact ⟨_, 3, fgts, va, rfl, by rw [hF, List.append_nil]; rfl⟩
    | succ n =>
    refine CmpW.T ?_
    refine gos ?_
    refine CallW.meth 0 (OK_does v r') rfl rfl rfl rfl rfl rfl ?_
    cases hb : r'.bad with
    | true =>
      rw [listG_bad _ _ hb] at hF
      refine gos ?_
      exact ⟨_, 3, fgts, va, rfl, by rw [hF, List.append_nil]; rfl⟩
    | false =>
    rw [listG_go _ _ hb] at hF
    refine gos ?_
    obtain ⟨o1, o2⟩ := hk1 r' ok'
    refine CallW.rc (i := 0) (j := 1) (by decide) rfl rfl (hone r' ok' hs') rfl rfl rfl rfl rfl ?_
    generalize one r' = y at *
    obtain ⟨y, r2⟩ := y
    simp only at o1 o2 hF
    rw [← o2] at hs'
    have hal : (acc.map encU).length = acc.length := by simp
    refine gos ?_
    intro v3
    (repeat (first | refine gof ?_ | refine fun (vv : Nat) => ?_))
    rw [show ((n + 1 : Nat) : Int) - 1 = (n : Int) by omega]
    exact ⟨n + 1, _, 3, by omega, fgts, n, vv, acc ++ [y], r2, rfl, o1, hs', by simp; omega, by rw [hF]; simp, rfl, by rw [List.map_append]; rfl⟩
  rintro e h ⟨va, rfl, rfl⟩
  refine AC.go tab ?_
  refine gos ?_
  refine RetW.wk (r' := .fsl ((listRd one r).1.map encU)) (by simp) ?_ (Wk.row (k := 0) (i := 2) (o := ⟨va, 152, 2, (listRd one r).1.map encU⟩) rfl rfl rfl (clLL_map encU_closed _)) ?_
  · rfl
  exact ⟨rfl, rfl⟩
end Go.Proofs.YtjjppmbojcgdgaaGreatDoor

namespace Go.Proofs.YtjjppmbojcgdgaaGreatDoor
open Go Go.Abs
attribute [local irreducible] DrawW CallW RetW AC Does CmpW
variable {G : Globs}
theorem bnd1 {α β : Type} (f : Rd → α × Rd) (g : α → Rd → β × Rd) (r : Rd) : bnd f g r = g (f r).1 (f r).2 := rfl
theorem readTexts1_does (v vc : Nat) (r : Rd) (hk : r.ok) (hs : r.s.length < 4294967296) : Does Tryz.prog G 231 ([] ++ [] ++ [.ptr 1 vc 0 0]) [some (rdO v r), some (rcO vc v)]
    fun ae O => ae = .ret (.agg (encT (txtRd r).1)) ∧ O = [some (rdO v (txtRd r).2), some (rcO vc v)] := by
  obtain ⟨k1, k2⟩ := num_keeps r hk
  have dN := Num_does (G := G) v r hk hs
  have dT := Text_does (G := G) v (numRd r).2 k1 (by rw [k2]; exact hs)
  have e1 : txtRd r = (⟨((numRd r).1 : Int), (textRd (numRd r).2).1⟩, (textRd (numRd r).2).2) := rfl
  rw [e1]
  generalize numRd r = x at *
  generalize textRd x.2 = y at *
  refine Does.body tab Tryz.func231 rfl rfl ?_
  refine gos ?_
  intro v1
  refine gos ?_
  refine DrawW.P (.take 0 (.fork (.cons 1 (.take 2 (.take 3 (.take 4 (.take 5 .done)))) (.cons 2 (.take 1 (.take 3 (.take 4 (.take 5 .done)))) .nil)))) ?_
  refine gos ?_
  refine And.intro ?_ (And.intro ?_ trivial)
  all_goals
    refine gos ?_
    refine CallW.meth 0 dN rfl rfl rfl rfl rfl rfl ?_
    refine gos ?_
    refine CallW.meth 0 dT rfl rfl rfl rfl rfl rfl ?_
    refine gos ?_
    refine RetW.plain (by simp) ?_
    exact ⟨rfl, rfl⟩
theorem readTexts_does (v : Nat) (r : Rd) (hk : r.ok) (hs : r.s.length < 4294967296) : Does Tryz.prog G 171 [.ptr 0 v 0 0] [some (rdO v r)]
    fun ae O => ae = .ret (txtL (listRd txtRd r).1) ∧ O = [some (rdO v (listRd txtRd r).2)] := by
  refine Does.body tab Tryz.func171 rfl rfl ?_
  refine gos ?_
  intro vc
  refine gos ?_
  refine CallW.rc (i := 0) (j := 1) (by decide) rfl rfl (listT_does v vc 231 txtRd txt_keeps (readTexts1_does v vc) r hk hs) rfl rfl rfl rfl rfl ?_
  refine gos ?_
  refine RetW.plain (by simp) ?_
  exact ⟨rfl, rfl⟩
theorem readRows1_does (v vc : Nat) (r : Rd) (hk : r.ok) (hs : r.s.length < 4294967296) : Does Tryz.prog G 228 ([] ++ [] ++ [.ptr 1 vc 0 0]) [some (rdO v r), some (rcO vc v)]
    fun ae O => ae = .ret (.agg (encR (rowRd r).1)) ∧ O = [some (rdO v (rowRd r).2), some (rcO vc v)] := by
  obtain ⟨k1, k2⟩ := num_keeps r hk
  have dN := Num_does (G := G) v r hk hs
  have dT := readTexts_does (G := G) v (numRd r).2 k1 (by rw [k2]; exact hs)
  have e1 : rowRd r = (⟨((numRd r).1 : Int), (listRd txtRd (numRd r).2).1⟩, (listRd txtRd (numRd r).2).2) := rfl
  rw [e1]
  generalize numRd r = x at *
  generalize listRd txtRd x.2 = y at *
  refine Does.body tab Tryz.func228 rfl rfl ?_
  refine gos ?_
  intro v1
  refine gos ?_
  refine DrawW.P (.take 0 (.fork (.cons 1 (.take 2 (.take 3 (.take 4 (.take 5 .done)))) (.cons 2 (.take 1 (.take 3 (.take 4 (.take 5 .done)))) .nil)))) ?_
  refine gos ?_
  refine And.intro ?_ (And.intro ?_ trivial)
  all_goals
    refine gos ?_
    refine CallW.meth 0 dN rfl rfl rfl rfl rfl rfl ?_
    refine gos ?_
    refine CallW.meth 0 dT rfl rfl rfl rfl rfl rfl ?_
    refine gos ?_
    refine RetW.plain (by simp) ?_
    exact ⟨rfl, rfl⟩
theorem readRows_does (v : Nat) (r : Rd) (hk : r.ok) (hs : r.s.length < 4294967296) : Does Tryz.prog G 168 [.ptr 0 v 0 0] [some (rdO v r)]
    fun ae O => ae = .ret (rowL (listRd rowRd r).1) ∧ O = [some (rdO v (listRd rowRd r).2)] := by
  refine Does.body tab Tryz.func168 rfl rfl ?_
  refine gos ?_
  intro vc
  refine gos ?_
  refine CallW.rc (i := 0) (j := 1) (by decide) rfl rfl (listR_does v vc 228 rowRd row_keeps (readRows1_does v vc) r hk hs) rfl rfl rfl rfl rfl ?_
  refine gos ?_
  refine RetW.plain (by simp) ?_
  exact ⟨rfl, rfl⟩
theorem Decode2_does (v vc : Nat) (r : Rd) (hk : r.ok) (hs : r.s.length < 4294967296) : Does Tryz.prog G 173 ([] ++ [] ++ [.ptr 1 vc 0 0]) [some (rdO v r), some (rcO vc v)]
    fun ae O => ae = .ret (.agg (encU (untRd r).1)) ∧ O = [some (rdO v (untRd r).2), some (rcO vc v)] := by
  obtain ⟨k1, k2⟩ := text_keeps r hk
  have dN := Text_does (G := G) v r hk hs
  have dT := readTexts_does (G := G) v (textRd r).2 k1 (by rw [k2]; exact hs)
  have e1 : untRd r = (⟨(textRd r).1, (listRd txtRd (textRd r).2).1⟩, (listRd txtRd (textRd r).2).2) := rfl
  rw [e1]
  generalize textRd r = x at *
  generalize listRd txtRd x.2 = y at *
  refine Does.body tab Tryz.func173 rfl rfl ?_
  refine gos ?_
  intro v1
  refine gos ?_
  refine DrawW.P (.take 0 (.fork (.cons 1 (.take 2 (.take 3 (.take 4 (.take 5 .done)))) (.cons 2 (.take 1 (.take 3 (.take 4 (.take 5 .done)))) .nil)))) ?_
  refine gos ?_
  refine And.intro ?_ (And.intro ?_ trivial)
  all_goals
    refine gos ?_
    refine CallW.meth 0 dN rfl rfl rfl rfl rfl rfl ?_
    refine gos ?_
    refine CallW.meth 0 dT rfl rfl rfl rfl rfl rfl ?_
    refine gos ?_
    refine RetW.plain (by simp) ?_
    exact ⟨rfl, rfl⟩
end Go.Proofs.YtjjppmbojcgdgaaGreatDoor
