/- A table, read. -/
import Derived.Test.YtjjppmbojcgdgaaGreatDoorJ31
import Derived.Test.YtjjppmbojcgdgaaGreatDoorJ18
set_option linter.unusedVariables false
set_option linter.unusedSimpArgs false
set_option maxRecDepth 100000
set_option maxHeartbeats 4000000

namespace Go.Proofs.YtjjppmbojcgdgaaGreatDoor
open Go Go.Abs
attribute [local irreducible] DrawW CallW RetW AC Does CmpW
variable {G : Globs}
theorem call_texts {s : AHeap} {K KP : AV → AHeap → Prop} {i j v : Nat} {cs : List AV} (hij : i ≠ j) (hc : closedL cs = true) (hi : s[i]? = some (some ⟨v, 65, 34, [cs]⟩)) (hj : s[j]? = some none)
    (k : ∀ N, setHK s i ⟨v, 65, 34, [cs]⟩ fun s => setHK s j ⟨N, 142, 1, offs27.map fun k => [.ptr i v 0 k]⟩ (K (.sl j N))) : CallW Tryz.prog G 75 [.ptr i v 0 0] s K KP := by
  refine CallW.ofN [i, j] (as' := [.ptr 0 v 0 0]) (textsO_does [cs] v) ⟨by simp [hij], rfl, fun x hx => ?_, fun k m hm => ?_, fun o ho => ?_⟩ (by simp [renL, ren]) (by simp [insideL, inside]) ?_
  · have : x = i ∨ x = j := by simpa using hx
    rcases this with rfl | rfl
    · exact (List.getElem?_eq_some_iff.1 hi).1
    · exact (List.getElem?_eq_some_iff.1 hj).1
  · match k, hm with
    | 0, hm =>
      have : i = m := by simpa using hm
      subst this
      rw [hi]
      simp [renO, renLL, renL_closed _ _ hc]
    | 1, hm =>
      have : j = m := by simpa using hm
      subst this
      rw [hj]
      rfl
    | k + 2, hm => simp at hm
  · have : o = ⟨v, 65, 34, [cs]⟩ := by simpa using ho
    subst this
    simp [insideLL, insideL_closed _ _ hc]
  · rintro ae O ⟨N, rfl, rfl⟩ _
    have := k N
    simp only [setHK_eq] at this
    simp only [putR, Option.map_some]
    have e1 : renO [i, j] ⟨v, 65, 34, [cs]⟩ = ⟨v, 65, 34, [cs]⟩ := by simp [renO, renLL, renL_closed _ _ hc]
    have e2 : renO [i, j] ⟨N, 142, 1, ptrsO v⟩ = ⟨N, 142, 1, offs27.map fun k => [.ptr i v 0 k]⟩ := rfl
    rw [e1, e2]
    exact this
theorem RetW.unnil2 {n : Nat} {Q : AEnd → AHeap → Prop} {s : AHeap} {cs : List AV} {b : AV} (hn : n ≤ s.length) (h : Q (.ret (.tuple [.agg (cs.map unnil), b])) (s.take n)) : RetW G n Q (.tuple [.agg cs, b]) s := by
  unfold RetW
  refine ⟨hn, fun C u hg hs hr => ⟨_, C, rfl, hg, Ext.refl C, by rw [hs], ?_, by rw [hs]; exact h⟩⟩
  simp only [RepV, RepL] at hr ⊢
  obtain ⟨us, rfl, u1, r1, e, ⟨ws, rfl, h1⟩, u2, r2, e2, h2, rfl⟩ := hr
  exact ⟨us, rfl, _, r1, e, ⟨ws, rfl, unnil_repL h1⟩, u2, [], e2, h2, rfl⟩
def rds (r : Rd) : Nat → Rd
  | 0 => r
  | i + 1 => (textRd (rds r i)).2
def xsr (r : Rd) (i : Nat) : List UInt8 := (textRd (rds r i)).1
theorem rds_ok {r : Rd} (h : r.ok) : ∀ i, (rds r i).ok ∧ (rds r i).s = r.s
  | 0 => ⟨h, rfl⟩
  | i + 1 => by
    obtain ⟨a, b⟩ := rds_ok h i
    obtain ⟨c, d⟩ := text_keeps _ a
    exact ⟨c, d.trans b⟩
def decZ (xs : Nat → List UInt8) (mg a b c d e f : AV) : List AV := [.str (xs 0), .str (xs 1), .str (xs 2), .str (xs 3), .str (xs 4), .str (xs 5), .str (xs 6), .str (xs 7), .str (xs 8), .str (xs 9), .str (xs 10), .str (xs 11), .str (xs 12), .str (xs 13), .str (xs 14), .str (xs 15), mg, .str (xs 16), .str (xs 17), .str (xs 18), .str (xs 19), .str (xs 20), a, b, c, d, e, f, .str (xs 21), .str (xs 22), .str (xs 23), .str (xs 24), .str (xs 25), .str (xs 26)]
def decX (xs : Nat → List UInt8) (i : Nat) : List AV := decZ (fun j => if j < i then xs j else []) (.int .i64 0) .nils .nils .nils .nils .nils .nils
def zT : List AV := decZ (fun _ => []) (.int .i64 0) .nils .nils .nils .nils .nils .nils
set_option maxHeartbeats 40000000 in
theorem TDecode_does (s : List UInt8) (hs : s.length < 4294967296) : Does Tryz.prog G 74 [.str s] [] fun ae _ => ae = .ret (.tuple [.agg (tabC (decF s).1), .int .i64 (decF s).2]) := by
  refine Does.bodyA tab Tryz.func74 rfl rfl ?_
  refine AC.step tab ?_
  refine gos ?_
  intro v0
  refine gos ?_
  refine AC.step tab ?_
  refine gos ?_
  by_cases hlen : 65536 < s.length
  · refine CmpW.t (by simp; omega) ?_
    refine gos ?_
    refine RetW.unnil2 (by simp) ?_
    rw [decF, if_pos hlen]
    rfl
  refine CmpW.f (by simp; omega) ?_
  refine gos ?_
  rw [decF, if_neg hlen]
  refine AC.slot ?_
  refine AC.step tab ?_
  refine gos ?_
  refine CallW.fresh 1 (mk := fun N => rdO N ⟨s, 0, false⟩) (New_does s) rfl rfl (fun N => rfl) (fun vr => ?_)
  refine gos ?_
  intro vc
  refine gos ?_
  refine AC.step tab ?_
  refine gos ?_
  intro vt
  refine gos ?_
  obtain ⟨r0, hr0⟩ : ∃ r0 : Rd, r0 = ⟨s, 0, false⟩ := ⟨_, rfl⟩
  have hok : r0.ok := by rw [hr0]; exact Nat.zero_le _
  have hs0 : r0.s.length < 4294967296 := by rw [hr0]; exact hs
  rw [← hr0]
  have dT : ∀ i, Does Tryz.prog G _ [.ptr 0 vr 0 0] [some (rdO vr (rds r0 i))] fun ae O => ae = .ret (.str (xsr r0 i)) ∧ O = [some (rdO vr (rds r0 (i + 1)))] := fun i =>
    Text_does (G := G) vr (rds r0 i) (rds_ok hok i).1 (by rw [(rds_ok hok i).2]; exact hs0)
  refine AC.slot ?_
  refine AC.cutF tab (fun e h => ∃ vx, e = (List.replicate 2 .any ++ [.ptr 0 v0 0 0] ++ List.replicate 1 .any ++ [.ptr 2 vc 0 0, .ptr 3 vt 0 0] ++ List.replicate 47 .any) ∧
    h = [some ⟨v0, 65, 34, [zT]⟩, some (rdO vr (rds r0 27)), some ⟨vc, 237, 1, [[.ptr 1 vr 0 0]]⟩, some ⟨vt, 65, 34, [decZ (xsr r0) (.int .i64 0) .nils .nils .nils .nils .nils .nils]⟩, vx]) ?_ ?_
  · refine gos ?_
    refine call_texts (i := 3) (j := 4) (by decide) rfl rfl rfl (fun N => ?_)
    refine gos ?_
    refine AC.loopC tab (fun f e h => ∃ (i : Nat), f + i = 28 ∧ i ≤ 27 ∧ e = (List.replicate 2 .any ++ [.ptr 0 v0 0 0] ++ List.replicate 1 .any ++ [.ptr 2 vc 0 0, .ptr 3 vt 0 0] ++ List.replicate 8 .any ++ [.sl 4 N, .int .i64 27, .int .i64 i] ++ List.replicate 36 .any) ∧
      h = [some ⟨v0, 65, 34, [zT]⟩, some (rdO vr (rds r0 i)), some ⟨vc, 237, 1, [[.ptr 1 vr 0 0]]⟩, some ⟨vt, 65, 34, [decX (xsr r0) i]⟩, some ⟨N, 142, 1, offs27.map fun k => [.ptr 3 vt 0 k]⟩]) 28 ⟨_, fgts, 0, by omega, by omega, rfl, rfl⟩ ?_
    rintro f e h ⟨i, hf, hi, rfl, rfl⟩
    by_cases h27 : i = 27
    · subst h27
      refine gos ?_
      exact ⟨_, 5, fgts, _, rfl, rfl⟩
    have : i = 0 ∨ i = 1 ∨ i = 2 ∨ i = 3 ∨ i = 4 ∨ i = 5 ∨ i = 6 ∨ i = 7 ∨ i = 8 ∨ i = 9 ∨ i = 10 ∨ i = 11 ∨ i = 12 ∨ i = 13 ∨ i = 14 ∨ i = 15 ∨ i = 16 ∨ i = 17 ∨ i = 18 ∨ i = 19 ∨ i = 20 ∨ i = 21 ∨ i = 22 ∨ i = 23 ∨ i = 24 ∨ i = 25 ∨ i = 26 := by omega
    clear h27 hi
    rcases this with rfl | rfl | rfl | rfl | rfl | rfl | rfl | rfl | rfl | rfl | rfl | rfl | rfl | rfl | rfl | rfl | rfl | rfl | rfl | rfl | rfl | rfl | rfl | rfl | rfl | rfl | rfl
    · refine gos ?_
      refine And.intro (And.intro (by decide) (by show ((0 : Nat) : Int) < ((27 : Nat) : Int); decide)) ?_
      refine gos ?_
      refine CallW.meth 1 (dT 0) rfl rfl rfl rfl rfl rfl ?_
      refine gos ?_
      exact ⟨f - 1, _, 5, by omega, fgts, 1, by omega, by omega, rfl, rfl⟩
    · refine gos ?_
      refine And.intro (And.intro (by decide) (by show ((1 : Nat) : Int) < ((27 : Nat) : Int); decide)) ?_
      refine gos ?_
      refine CallW.meth 1 (dT 1) rfl rfl rfl rfl rfl rfl ?_
      refine gos ?_
      exact ⟨f - 1, _, 5, by omega, fgts, 2, by omega, by omega, rfl, rfl⟩
    · refine gos ?_
      refine And.intro (And.intro (by decide) (by show ((2 : Nat) : Int) < ((27 : Nat) : Int); decide)) ?_
      refine gos ?_
      refine CallW.meth 1 (dT 2) rfl rfl rfl rfl rfl rfl ?_
      refine gos ?_
      exact ⟨f - 1, _, 5, by omega, fgts, 3, by omega, by omega, rfl, rfl⟩
    · refine gos ?_
      refine And.intro (And.intro (by decide) (by show ((3 : Nat) : Int) < ((27 : Nat) : Int); decide)) ?_
      refine gos ?_
      refine CallW.meth 1 (dT 3) rfl rfl rfl rfl rfl rfl ?_
      refine gos ?_
      exact ⟨f - 1, _, 5, by omega, fgts, 4, by omega, by omega, rfl, rfl⟩
    · refine gos ?_
      refine And.intro (And.intro (by decide) (by show ((4 : Nat) : Int) < ((27 : Nat) : Int); decide)) ?_
      refine gos ?_
      refine CallW.meth 1 (dT 4) rfl rfl rfl rfl rfl rfl ?_
      refine gos ?_
      exact ⟨f - 1, _, 5, by omega, fgts, 5, by omega, by omega, rfl, rfl⟩
    · refine gos ?_
      refine And.intro (And.intro (by decide) (by show ((5 : Nat) : Int) < ((27 : Nat) : Int); decide)) ?_
      refine gos ?_
      refine CallW.meth 1 (dT 5) rfl rfl rfl rfl rfl rfl ?_
      refine gos ?_
      exact ⟨f - 1, _, 5, by omega, fgts, 6, by omega, by omega, rfl, rfl⟩
    · refine gos ?_
      refine And.intro (And.intro (by decide) (by show ((6 : Nat) : Int) < ((27 : Nat) : Int); decide)) ?_
      refine gos ?_
      refine CallW.meth 1 (dT 6) rfl rfl rfl rfl rfl rfl ?_
      refine gos ?_
      exact ⟨f - 1, _, 5, by omega, fgts, 7, by omega, by omega, rfl, rfl⟩
    · refine gos ?_
      refine And.intro (And.intro (by decide) (by show ((7 : Nat) : Int) < ((27 : Nat) : Int); decide)) ?_
      refine gos ?_
      refine CallW.meth 1 (dT 7) rfl rfl rfl rfl rfl rfl ?_
      refine gos ?_
      exact ⟨f - 1, _, 5, by omega, fgts, 8, by omega, by omega, rfl, rfl⟩
    · refine gos ?_
      refine And.intro (And.intro (by decide) (by show ((8 : Nat) : Int) < ((27 : Nat) : Int); decide)) ?_
      refine gos ?_
      refine CallW.meth 1 (dT 8) rfl rfl rfl rfl rfl rfl ?_
      refine gos ?_
      exact ⟨f - 1, _, 5, by omega, fgts, 9, by omega, by omega, rfl, rfl⟩
    · refine gos ?_
      refine And.intro (And.intro (by decide) (by show ((9 : Nat) : Int) < ((27 : Nat) : Int); decide)) ?_
      refine gos ?_
      refine CallW.meth 1 (dT 9) rfl rfl rfl rfl rfl rfl ?_
      refine gos ?_
      exact ⟨f - 1, _, 5, by omega, fgts, 10, by omega, by omega, rfl, rfl⟩
    · refine gos ?_
      refine And.intro (And.intro (by decide) (by show ((10 : Nat) : Int) < ((27 : Nat) : Int); decide)) ?_
      refine gos ?_
      refine CallW.meth 1 (dT 10) rfl rfl rfl rfl rfl rfl ?_
      refine gos ?_
      exact ⟨f - 1, _, 5, by omega, fgts, 11, by omega, by omega, rfl, rfl⟩
    · refine gos ?_
      refine And.intro (And.intro (by decide) (by show ((11 : Nat) : Int) < ((27 : Nat) : Int); decide)) ?_
      refine gos ?_
      refine CallW.meth 1 (dT 11) rfl rfl rfl rfl rfl rfl ?_
      refine gos ?_
      exact ⟨f - 1, _, 5, by omega, fgts, 12, by omega, by omega, rfl, rfl⟩
    · refine gos ?_
      refine And.intro (And.intro (by decide) (by show ((12 : Nat) : Int) < ((27 : Nat) : Int); decide)) ?_
      refine gos ?_
      refine CallW.meth 1 (dT 12) rfl rfl rfl rfl rfl rfl ?_
      refine gos ?_
      exact ⟨f - 1, _, 5, by omega, fgts, 13, by omega, by omega, rfl, rfl⟩
    · refine gos ?_
      refine And.intro (And.intro (by decide) (by show ((13 : Nat) : Int) < ((27 : Nat) : Int); decide)) ?_
      refine gos ?_
      refine CallW.meth 1 (dT 13) rfl rfl rfl rfl rfl rfl ?_
      refine gos ?_
      exact ⟨f - 1, _, 5, by omega, fgts, 14, by omega, by omega, rfl, rfl⟩
    · refine gos ?_
      refine And.intro (And.intro (by decide) (by show ((14 : Nat) : Int) < ((27 : Nat) : Int); decide)) ?_
      refine gos ?_
      refine CallW.meth 1 (dT 14) rfl rfl rfl rfl rfl rfl ?_
      refine gos ?_
      exact ⟨f - 1, _, 5, by omega, fgts, 15, by omega, by omega, rfl, rfl⟩
    · refine gos ?_
      refine And.intro (And.intro (by decide) (by show ((15 : Nat) : Int) < ((27 : Nat) : Int); decide)) ?_
      refine gos ?_
      refine CallW.meth 1 (dT 15) rfl rfl rfl rfl rfl rfl ?_
      refine gos ?_
      exact ⟨f - 1, _, 5, by omega, fgts, 16, by omega, by omega, rfl, rfl⟩
    · refine gos ?_
      refine And.intro (And.intro (by decide) (by show ((16 : Nat) : Int) < ((27 : Nat) : Int); decide)) ?_
      refine gos ?_
      refine CallW.meth 1 (dT 16) rfl rfl rfl rfl rfl rfl ?_
      refine gos ?_
      exact ⟨f - 1, _, 5, by omega, fgts, 17, by omega, by omega, rfl, rfl⟩
    · refine gos ?_
      refine And.intro (And.intro (by decide) (by show ((17 : Nat) : Int) < ((27 : Nat) : Int); decide)) ?_
      refine gos ?_
      refine CallW.meth 1 (dT 17) rfl rfl rfl rfl rfl rfl ?_
      refine gos ?_
      exact ⟨f - 1, _, 5, by omega, fgts, 18, by omega, by omega, rfl, rfl⟩
    · refine gos ?_
      refine And.intro (And.intro (by decide) (by show ((18 : Nat) : Int) < ((27 : Nat) : Int); decide)) ?_
      refine gos ?_
      refine CallW.meth 1 (dT 18) rfl rfl rfl rfl rfl rfl ?_
      refine gos ?_
      exact ⟨f - 1, _, 5, by omega, fgts, 19, by omega, by omega, rfl, rfl⟩
    · refine gos ?_
      refine And.intro (And.intro (by decide) (by show ((19 : Nat) : Int) < ((27 : Nat) : Int); decide)) ?_
      refine gos ?_
      refine CallW.meth 1 (dT 19) rfl rfl rfl rfl rfl rfl ?_
      refine gos ?_
      exact ⟨f - 1, _, 5, by omega, fgts, 20, by omega, by omega, rfl, rfl⟩
    · refine gos ?_
      refine And.intro (And.intro (by decide) (by show ((20 : Nat) : Int) < ((27 : Nat) : Int); decide)) ?_
      refine gos ?_
      refine CallW.meth 1 (dT 20) rfl rfl rfl rfl rfl rfl ?_
      refine gos ?_
      exact ⟨f - 1, _, 5, by omega, fgts, 21, by omega, by omega, rfl, rfl⟩
    · refine gos ?_
      refine And.intro (And.intro (by decide) (by show ((21 : Nat) : Int) < ((27 : Nat) : Int); decide)) ?_
      refine gos ?_
      refine CallW.meth 1 (dT 21) rfl rfl rfl rfl rfl rfl ?_
      refine gos ?_
      exact ⟨f - 1, _, 5, by omega, fgts, 22, by omega, by omega, rfl, rfl⟩
    · refine gos ?_
      refine And.intro (And.intro (by decide) (by show ((22 : Nat) : Int) < ((27 : Nat) : Int); decide)) ?_
      refine gos ?_
      refine CallW.meth 1 (dT 22) rfl rfl rfl rfl rfl rfl ?_
      refine gos ?_
      exact ⟨f - 1, _, 5, by omega, fgts, 23, by omega, by omega, rfl, rfl⟩
    · refine gos ?_
      refine And.intro (And.intro (by decide) (by show ((23 : Nat) : Int) < ((27 : Nat) : Int); decide)) ?_
      refine gos ?_
      refine CallW.meth 1 (dT 23) rfl rfl rfl rfl rfl rfl ?_
      refine gos ?_
      exact ⟨f - 1, _, 5, by omega, fgts, 24, by omega, by omega, rfl, rfl⟩
    · refine gos ?_
      refine And.intro (And.intro (by decide) (by show ((24 : Nat) : Int) < ((27 : Nat) : Int); decide)) ?_
      refine gos ?_
      refine CallW.meth 1 (dT 24) rfl rfl rfl rfl rfl rfl ?_
      refine gos ?_
      exact ⟨f - 1, _, 5, by omega, fgts, 25, by omega, by omega, rfl, rfl⟩
    · refine gos ?_
      refine And.intro (And.intro (by decide) (by show ((25 : Nat) : Int) < ((27 : Nat) : Int); decide)) ?_
      refine gos ?_
      refine CallW.meth 1 (dT 25) rfl rfl rfl rfl rfl rfl ?_
      refine gos ?_
      exact ⟨f - 1, _, 5, by omega, fgts, 26, by omega, by omega, rfl, rfl⟩
    · refine gos ?_
      refine And.intro (And.intro (by decide) (by show ((26 : Nat) : Int) < ((27 : Nat) : Int); decide)) ?_
      refine gos ?_
      refine CallW.meth 1 (dT 26) rfl rfl rfl rfl rfl rfl ?_
      refine gos ?_
      exact ⟨f - 1, _, 5, by omega, fgts, 27, by omega, by omega, rfl, rfl⟩
  rintro e h ⟨vx, rfl, rfl⟩
  obtain ⟨k0, s0⟩ := rds_ok hok 27
  have z0 : (rds r0 27).s.length < 4294967296 := by rw [s0]; exact hs0
  have hT : tabRd r0 = (bnd numRd fun mg => bnd (listRd rowRd) fun sh => bnd (listRd rowRd) fun lo => bnd (listRd rowRd) fun ms => bnd (listRd curRd) fun cu => bnd (listRd untRd) fun un => bnd (listRd txtRd) fun mu => rtn (⟨⟨xsr r0 0, xsr r0 1, xsr r0 2, xsr r0 3, xsr r0 4, xsr r0 5, xsr r0 6, xsr r0 7, xsr r0 8, xsr r0 9⟩, xsr r0 10, xsr r0 11, xsr r0 12, xsr r0 13, xsr r0 14, xsr r0 15, (mg : Int), xsr r0 16, xsr r0 17, xsr r0 18, xsr r0 19, xsr r0 20, sh, lo, ms, cu, un, mu, ⟨xsr r0 21, xsr r0 22, xsr r0 23⟩, ⟨xsr r0 24, xsr r0 25, xsr r0 26⟩⟩ : TTab)) (rds r0 27) := rfl
  rw [hT]
  clear hT dT
  generalize xsr r0 = xs at *
  generalize rds r0 27 = q0 at *
  obtain ⟨k1, s1⟩ := num_keeps _ k0
  have d1 := Num_does (G := G) vr _ k0 z0
  have z1 : (numRd q0).2.s.length < 4294967296 := by rw [s1]; exact z0
  rw [bnd1]
  generalize numRd q0 = y1 at *
  obtain ⟨k2, s2⟩ := rows_keeps _ k1
  have d2 := readRows_does (G := G) vr _ k1 z1
  have z2 : (listRd rowRd y1.2).2.s.length < 4294967296 := by rw [s2]; exact z1
  rw [bnd1]
  generalize listRd rowRd y1.2 = y2 at *
  obtain ⟨k3, s3⟩ := rows_keeps _ k2
  have d3 := readRows_does (G := G) vr _ k2 z2
  have z3 : (listRd rowRd y2.2).2.s.length < 4294967296 := by rw [s3]; exact z2
  rw [bnd1]
  generalize listRd rowRd y2.2 = y3 at *
  obtain ⟨k4, s4⟩ := rows_keeps _ k3
  have d4 := readRows_does (G := G) vr _ k3 z3
  have z4 : (listRd rowRd y3.2).2.s.length < 4294967296 := by rw [s4]; exact z3
  rw [bnd1]
  generalize listRd rowRd y3.2 = y4 at *
  obtain ⟨k5, s5⟩ := curs_keeps _ k4
  have d5 := listC_does (G := G) vr vc 170 curRd cur_keeps (Decode1_does vr vc) _ k4 z4
  have z5 : (listRd curRd y4.2).2.s.length < 4294967296 := by rw [s5]; exact z4
  rw [bnd1]
  generalize listRd curRd y4.2 = y5 at *
  obtain ⟨k6, s6⟩ := unts_keeps _ k5
  have d6 := listU_does (G := G) vr vc 173 untRd unt_keeps (Decode2_does vr vc) _ k5 z5
  have z6 : (listRd untRd y5.2).2.s.length < 4294967296 := by rw [s6]; exact z5
  rw [bnd1]
  generalize listRd untRd y5.2 = y6 at *
  obtain ⟨k7, s7⟩ := txts_keeps _ k6
  have d7 := readTexts_does (G := G) vr _ k6 z6
  have z7 : (listRd txtRd y6.2).2.s.length < 4294967296 := by rw [s7]; exact z6
  rw [bnd1]
  generalize listRd txtRd y6.2 = y7 at *
  have dD := Done_does (G := G) vr y7.2
  dsimp only [rtn]
  refine AC.step tab ?_
  refine gos ?_
  refine CallW.meth 1 d1 rfl rfl rfl rfl rfl rfl ?_
  refine gos ?_
  refine AC.cutF tab (fun e h => e = (List.replicate 2 .any ++ [.ptr 0 v0 0 0] ++ List.replicate 1 .any ++ [.ptr 2 vc 0 0, .ptr 3 vt 0 0] ++ List.replicate 47 .any) ∧
    h = [some ⟨v0, 65, 34, [zT]⟩, some (rdO vr y4.2), some ⟨vc, 237, 1, [[.ptr 1 vr 0 0]]⟩, some ⟨vt, 65, 34, [decZ xs (.int .i64 y1.1) (rowL y2.1) (rowL y3.1) (rowL y4.1) .nils .nils .nils]⟩, vx]) ?_ ?_
  · refine gos ?_
    refine DrawW.P (.take 0 (.fork (.cons 1 (.take 2 (.fork (.cons 3 (.take 4 (.take 5 (.take 6 (.take 7 (.take 8 (.take 9 (.take 10 (.take 11 .done)))))))) (.cons 4 (.take 3 (.take 5 (.take 6 (.take 7 (.take 8 (.take 9 (.take 10 (.take 11 .done)))))))) .nil)))) (.cons 2 (.fork (.cons 1 (.fork (.cons 3 (.take 4 (.take 5 (.take 6 (.take 7 (.take 8 (.take 9 (.take 10 (.take 11 .done)))))))) (.cons 4 (.take 3 (.take 5 (.take 6 (.take 7 (.take 8 (.take 9 (.take 10 (.take 11 .done)))))))) .nil))) (.cons 4 (.take 1 (.take 3 (.take 5 (.take 6 (.take 7 (.take 8 (.take 9 (.take 10 (.take 11 .done))))))))) .nil))) (.cons 4 (.fork (.cons 1 (.take 2 (.take 3 (.take 5 (.take 6 (.take 7 (.take 8 (.take 9 (.take 10 (.take 11 .done))))))))) (.cons 2 (.take 1 (.take 3 (.take 5 (.take 6 (.take 7 (.take 8 (.take 9 (.take 10 (.take 11 .done))))))))) .nil))) .nil))))) ?_
    (repeat' (first | exact trivial | refine CallW.meth 1 d2 rfl rfl rfl rfl rfl rfl ?_ | refine CallW.meth 1 d3 rfl rfl rfl rfl rfl rfl ?_ | refine CallW.meth 1 d4 rfl rfl rfl rfl rfl rfl ?_ | refine gon ?_ | refine And.intro ?_ ?_))
    all_goals
      exact ⟨_, 5, fgts, rfl, rfl⟩
  rintro e h ⟨rfl, rfl⟩
  refine AC.step tab ?_
  refine gos ?_
  refine CallW.rc (i := 1) (j := 2) (by decide) rfl rfl d5 rfl rfl rfl rfl rfl ?_
  refine gos ?_
  refine AC.step tab ?_
  refine gos ?_
  refine CallW.rc (i := 1) (j := 2) (by decide) rfl rfl d6 rfl rfl rfl rfl rfl ?_
  refine gos ?_
  refine AC.step tab ?_
  refine gos ?_
  refine CallW.meth 1 d7 rfl rfl rfl rfl rfl rfl ?_
  refine gos ?_
  refine AC.step tab ?_
  refine gos ?_
  refine CallW.meth 1 dD rfl rfl rfl rfl rfl rfl ?_
  have hd : (!y7.2.bad && decide (y7.2.p = y7.2.s.length)) = true ↔ ¬ (y7.2.bad = true ∨ y7.2.p ≠ s.length) := by
    have : y7.2.s = s := by rw [s7, s6, s5, s4, s3, s2, s1, s0, hr0]
    rw [this]
    simp
  by_cases hb : y7.2.bad = true ∨ y7.2.p ≠ s.length
  · have hb' : (!y7.2.bad && decide (y7.2.p = y7.2.s.length)) = false := by
      cases hq : (!y7.2.bad && decide (y7.2.p = y7.2.s.length)) with
      | false => rfl
      | true => exact absurd hb (hd.1 hq)
    rw [hb']
    refine gos ?_
    refine RetW.unnil2 (by simp) ?_
    simp only [hb, if_true]
    rfl
  · rw [hd.2 hb]
    refine gos ?_
    refine AC.go tab ?_
    refine gos ?_
    refine RetW.plain (by simp) ?_
    simp only [hb, if_false]
    rfl
end Go.Proofs.YtjjppmbojcgdgaaGreatDoor
