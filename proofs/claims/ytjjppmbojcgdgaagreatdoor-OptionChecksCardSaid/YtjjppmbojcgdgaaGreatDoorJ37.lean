/- A decimal as it is written, and read. -/
import Derived.Test.YtjjppmbojcgdgaaGreatDoorJ30
import Derived.Test.YtjjppmbojcgdgaaGreatDoorJ16
import Derived.Test.YtjjppmbojcgdgaaGreatDoorJ01
import Derived.Lib.ItoaNum
import Derived.Lib.TrimByte
set_option linter.unusedVariables false
set_option linter.unusedSimpArgs false
set_option maxRecDepth 100000
set_option maxHeartbeats 4000000

namespace Go.Proofs.YtjjppmbojcgdgaaGreatDoor
open Go Go.Abs
attribute [local irreducible] DrawW CallW RetW AC Does CmpW
variable {G : Globs} {o : TTab} {p1 p2 p3 p4 : PD} {t : TTab}
theorem Name_some {N : List (List AV)} (hok : keysOK N = true) {u mu : AV} {code : List UInt8} {c : TCur} (hl : lookM N code = some (curV c)) (cat : Int) :
    Does Tryz.prog G 62 [.fptr (locX o p1 p2 p3 p4 (rest1 t u (.fmap N) mu)), .str code, .int .i64 cat] [] fun ae _ => ae = .ret (.tuple [.str (getC (strB c.names) cat), .bool true]) := by
  have dG := StrGet_does (G := G) (strB c.names) cat
  unfold curV at hl
  generalize getC (strB c.names) cat = g at *
  generalize bcC encS1 (strB c.names) = B at *
  refine Does.body tab Tryz.func62 rfl rfl ?_
  refine gos ?_
  refine And.intro hok ⟨_, hl, ?_⟩
  refine gos ?_
  refine CallW.pure dG rfl rfl ?_
  refine gos ?_
  refine RetW.plain (by simp) ?_
  rfl
theorem Name_none {N : List (List AV)} (hok : keysOK N = true) {u mu : AV} {code : List UInt8} (hl : lookM N code = none) (cat : Int) :
    Does Tryz.prog G 62 [.fptr (locX o p1 p2 p3 p4 (rest1 t u (.fmap N) mu)), .str code, .int .i64 cat] [] fun ae _ => ae = .ret (.tuple [.str [], .bool false]) := by
  refine Does.body tab Tryz.func62 rfl rfl ?_
  refine gos ?_
  refine And.intro hok ⟨_, hl, ?_⟩
  refine gos ?_
  refine RetW.plain (by simp) ?_
  rfl
theorem Unit_some {U : List (List AV)} (hok : keysOK U = true) {n mu : AV} {name : List UInt8} {x : TUnt} (hl : lookM U name = some (unitV x)) (cat : Int) :
    Does Tryz.prog G 204 [.fptr (locX o p1 p2 p3 p4 (rest1 t (.fmap U) n mu)), .str name, .int .i64 cat] [] fun ae _ => ae = .ret (.tuple [.agg (encB (getC (brzB 1 x.texts) cat)), .bool true]) := by
  have dG := BraGet_does (G := G) (brzB 1 x.texts) cat
  unfold unitV at hl
  generalize getC (brzB 1 x.texts) cat = g at *
  generalize bcC encB (brzB 1 x.texts) = B at *
  refine Does.body tab Tryz.func204 rfl rfl ?_
  refine gos ?_
  intro v1
  refine gos ?_
  refine And.intro hok ⟨_, hl, ?_⟩
  refine gos ?_
  refine CallW.pure dG rfl rfl ?_
  refine gos ?_
  refine RetW.plain (by simp) ?_
  rfl
theorem Unit_none {U : List (List AV)} (hok : keysOK U = true) {n mu : AV} {name : List UInt8} (hl : lookM U name = none) (cat : Int) :
    Does Tryz.prog G 204 [.fptr (locX o p1 p2 p3 p4 (rest1 t (.fmap U) n mu)), .str name, .int .i64 cat] [] fun ae _ => ae = .ret (.tuple [.agg [.nils, .nils], .bool false]) := by
  refine Does.body tab Tryz.func204 rfl rfl ?_
  refine gos ?_
  intro v1
  refine gos ?_
  refine And.intro hok ⟨_, hl, ?_⟩
  refine gos ?_
  refine RetW.plain (by simp) ?_
  rfl
end Go.Proofs.YtjjppmbojcgdgaaGreatDoor

namespace Go.Proofs.YtjjppmbojcgdgaaGreatDoor
open Go Go.Abs
set_option linter.unusedVariables false
set_option linter.unusedSimpArgs false
def Sticks {α : Type} (f : Rd → α × Rd) : Prop := ∀ r, r.bad = true → (f r).2.bad = true
def Cuts {α : Type} (f : Rd → α × Rd) (w : List UInt8) : Prop := ∀ r v t, RdAt r v → w = v ++ t → t ≠ [] → (f r).2.bad = true
def Backs {α : Type} (f : Rd → α × Rd) (w : α → List UInt8) : Prop :=
  ∀ r v, RdAt r v → (f r).2.bad = false → ∃ u, v = w (f r).1 ++ u ∧ RdAt (f r).2 u ∧ (f r).2.s = r.s
theorem sticks_rtn {α : Type} (a : α) : Sticks (rtn a) := fun _ h => h
theorem sticks_bnd {α β : Type} {f : Rd → α × Rd} {g : α → Rd → β × Rd} (h1 : Sticks f) (h2 : ∀ a, Sticks (g a)) : Sticks (bnd f g) := fun r h => h2 _ _ (h1 r h)
theorem cuts_nil {α : Type} (f : Rd → α × Rd) : Cuts f [] := fun r v t _ h k => absurd (List.append_eq_nil_iff.1 h.symm).2 k
theorem append_split {w x v t : List UInt8} (h : w ++ x = v ++ t) : (∃ u, w = v ++ u ∧ u ≠ []) ∨ ∃ u, v = w ++ u ∧ x = u ++ t := by
  rcases List.append_eq_append_iff.1 h with ⟨a, h1, h2⟩ | ⟨a, h1, h2⟩
  · exact .inr ⟨a, h1, h2⟩
  · by_cases ha : a = []
    · subst ha
      exact .inr ⟨[], by simpa using h1.symm, by simpa using h2.symm⟩
    · exact .inl ⟨a, h1, ha⟩
theorem cuts_bnd {α β : Type} {f : Rd → α × Rd} {g : α → Rd → β × Rd} {w x : List UInt8} {a : α} (h1 : Cuts f w) (h2 : Rds f w a) (h3 : Cuts (g a) x) (h4 : ∀ b, Sticks (g b)) : Cuts (bnd f g) (w ++ x) := by
  intro r v t hr hw ht
  rcases append_split hw with ⟨u, h, hu⟩ | ⟨u, rfl, hx⟩
  · exact h4 _ _ (h1 r v u hr h hu)
  · obtain ⟨e1, A1, _⟩ := h2 r u hr
    have := h3 (f r).2 u t A1 hx ht
    rw [← e1] at this
    exact this
theorem backs_bnd {α β : Type} {f : Rd → α × Rd} {g : α → Rd → β × Rd} {w : α → List UInt8} {x : β → List UInt8} (k : α → β → List UInt8)
    (h1 : Backs f w) (h2 : ∀ a, Backs (g a) (k a)) (h3 : ∀ a, Sticks (g a)) (hx : ∀ r, (f r).2.bad = false → x ((g (f r).1) (f r).2).1 = w (f r).1 ++ k (f r).1 ((g (f r).1) (f r).2).1) : Backs (bnd f g) x := by
  intro r v hr hb
  have hb' : ((g (f r).1) (f r).2).2.bad = false := hb
  have hf : (f r).2.bad = false := by
    cases h : (f r).2.bad
    · rfl
    · have h5 := h3 (f r).1 (f r).2 h
      rw [hb'] at h5
      cases h5
  obtain ⟨u, e1, A1, s1⟩ := h1 r v hr hf
  obtain ⟨u2, e2, A2, s2⟩ := h2 (f r).1 (f r).2 u A1 hb'
  refine ⟨u2, ?_, A2, s2.trans s1⟩
  show v = x ((g (f r).1) (f r).2).1 ++ u2
  rw [hx r hf, e1, e2, List.append_assoc]
theorem num_sticks : Sticks numRd := fun r h => by rw [numRd, if_pos h]; exact h
theorem text_sticks : Sticks textRd := fun r h => by
  have h1 := num_sticks r h
  show (if (numRd r).2.bad = true ∨ _ then _ else _ : List UInt8 × Rd).2.bad = true
  rw [if_pos (.inl h1)]
theorem count_sticks (m : Nat) : Sticks (countRd m) := fun r h => by
  have h1 := num_sticks r h
  show (if m < (numRd r).1 then _ else _ : Nat × Rd).2.bad = true
  split
  · rfl
  · exact h1
theorem numG_cuts : ∀ (k fu n acc sh : Nat) (r : Rd) (v t : List UInt8), RdAt r v → numL k n = v ++ t → t ≠ [] → (numG fu r acc sh).2.bad = true
  | _, 0, n, acc, sh, r, v, t, _, _, _ => rfl
  | 0, fu + 1, n, acc, sh, r, v, t, _, h, ht => absurd (List.append_eq_nil_iff.1 h.symm).2 ht
  | k + 1, fu + 1, n, acc, sh, r, v, t, hr, h, ht => by
    obtain ⟨hb, hl, hd⟩ := hr
    rw [numG]
    cases v with
    | nil =>
      have : r.s[r.p]? = none := by
        rw [List.getElem?_eq_none]
        rw [List.drop_eq_nil_iff] at hd
        exact hd
      simp only [this]
    | cons b v =>
      obtain ⟨e1, e2, e3⟩ := drop_cons hd
      simp only [e1]
      rw [numL] at h
      by_cases h1 : n ≤ 127
      · rw [if_pos h1] at h
        simp only [List.cons_append, List.cons.injEq] at h
        exact absurd (List.append_eq_nil_iff.1 h.2.symm).2 ht
      · rw [if_neg h1] at h
        simp only [List.cons_append, List.cons.injEq] at h
        obtain ⟨h2, h3⟩ := h
        have hv : b.toNat = n % 128 + 128 := by rw [← h2, UInt8.toNat_ofNat']; omega
        split
        · rfl
        rw [if_neg (by omega)]
        exact numG_cuts k fu (n / 128) _ _ { r with p := r.p + 1 } v t ⟨hb, e3, e2⟩ h3 ht
theorem num_cuts (n : Int) : Cuts numRd (numW n) := fun r v t hr h ht => by
  rw [numRd, if_neg (by simp [hr.1])]
  exact numG_cuts 10 10 n.toNat 0 0 r v t hr h ht
theorem text_cuts {s : List UInt8} (h : s.length < 2 ^ 63) : Cuts textRd (textW s) := fun r v t hr hw ht => by
  show (if (numRd r).2.bad = true ∨ (numRd r).2.s.length - (numRd r).2.p < (numRd r).1 then _ else _ : List UInt8 × Rd).2.bad = true
  rcases append_split hw with ⟨u, h1, hu⟩ | ⟨u, rfl, hx⟩
  · rw [if_pos (.inl (num_cuts _ r v u hr h1 hu))]
  · obtain ⟨e1, A1, s1⟩ := num_reads (n := s.length) (by omega) (by exact_mod_cast h) r u hr
    have e2 : (numRd r).1 = s.length := by simpa using e1
    have hl : (numRd r).2.s.length - (numRd r).2.p = u.length := by
      have := congrArg List.length A1.2.2
      simpa using this
    have hu : s.length = u.length + t.length := by rw [hx, List.length_append]
    have : 0 < t.length := List.length_pos_iff.2 ht
    rw [if_pos (.inr (by omega))]
theorem count_cuts (m : Nat) (n : Nat) : Cuts (countRd m) (numW n) := fun r v t hr h ht => by
  have h1 := num_cuts n r v t hr h ht
  show (if m < (numRd r).1 then _ else _ : Nat × Rd).2.bad = true
  split
  · rfl
  · exact h1
theorem numG_backs : ∀ (k acc sh : Nat) (r : Rd) (v : List UInt8), RdAt r v → (numG k r acc sh).2.bad = false →
    ∃ (x : Nat) (u : List UInt8), v = numL k x ++ u ∧ (numG k r acc sh).1 = acc + x * 2 ^ sh ∧ RdAt (numG k r acc sh).2 u ∧ (numG k r acc sh).2.s = r.s ∧ (0 < sh → 0 < x)
  | 0, acc, sh, r, v, _, h => by cases h
  | k + 1, acc, sh, r, v, hr, h => by
    obtain ⟨hb, hl, hd⟩ := hr
    rw [numG] at h ⊢
    cases v with
    | nil =>
      have : r.s[r.p]? = none := by
        rw [List.getElem?_eq_none]
        rw [List.drop_eq_nil_iff] at hd
        exact hd
      simp only [this] at h
      cases h
    | cons b v =>
      obtain ⟨e1, e2, e3⟩ := drop_cons hd
      simp only [e1] at h ⊢
      by_cases h56 : 56 < sh
      · rw [if_pos h56] at h; cases h
      rw [if_neg h56] at h ⊢
      have hbt : b.toNat < 256 := b.toNat_lt
      by_cases h128 : b.toNat < 128
      · rw [if_pos h128] at h ⊢
        by_cases h0 : b = 0 ∧ 0 < sh
        · rw [if_pos h0] at h; cases h
        rw [if_neg h0]
        refine ⟨b.toNat, v, ?_, rfl, ⟨hb, e3, e2⟩, rfl, fun hs => ?_⟩
        · rw [numL, if_pos (by omega), UInt8.ofNat_toNat]; rfl
        · rcases Nat.eq_zero_or_pos b.toNat with hz | hz
          · exact absurd ⟨UInt8.toNat_inj.1 (by simpa using hz), hs⟩ h0
          · exact hz
      · rw [if_neg h128] at h ⊢
        obtain ⟨x, u, i1, i2, i3, i4, i5⟩ := numG_backs k (acc + b.toNat % 128 * 2 ^ sh) (sh + 7) { r with p := r.p + 1 } v ⟨hb, e3, e2⟩ h
        have hx := i5 (by omega)
        refine ⟨b.toNat % 128 + 128 * x, u, ?_, ?_, i3, i4, fun _ => by omega⟩
        · rw [numL, if_neg (by omega), i1, show (b.toNat % 128 + 128 * x) % 128 + 128 = b.toNat by omega, show (b.toNat % 128 + 128 * x) / 128 = x by omega, UInt8.ofNat_toNat]; rfl
        · rw [i2, Nat.pow_add, Nat.add_mul, Nat.add_assoc]
          congr 1
          congr 1
          rw [Nat.mul_comm 128 x, Nat.mul_assoc, Nat.mul_comm (2 ^ sh) (2 ^ 7)]
theorem num_backs : Backs numRd (fun n => numW (n : Int)) := fun r v hr h => by
  rw [numRd, if_neg (by simp [hr.1])] at h ⊢
  obtain ⟨x, u, i1, i2, i3, i4, _⟩ := numG_backs 10 0 0 r v hr h
  have : (numG 10 r 0 0).1 = x := by simpa using i2
  refine ⟨u, ?_, i3, i4⟩
  rw [i1, this]; rfl
theorem text_backs : Backs textRd textW := fun r v hr h => by
  have h' : (if (numRd r).2.bad = true ∨ (numRd r).2.s.length - (numRd r).2.p < (numRd r).1 then ([], { (numRd r).2 with bad := true }) else (((numRd r).2.s.drop (numRd r).2.p).take (numRd r).1, { (numRd r).2 with p := (numRd r).2.p + (numRd r).1 }) : List UInt8 × Rd).2.bad = false := h
  have hT : textRd r = (if (numRd r).2.bad = true ∨ (numRd r).2.s.length - (numRd r).2.p < (numRd r).1 then ([], { (numRd r).2 with bad := true }) else (((numRd r).2.s.drop (numRd r).2.p).take (numRd r).1, { (numRd r).2 with p := (numRd r).2.p + (numRd r).1 })) := rfl
  rw [hT]
  by_cases hc : (numRd r).2.bad = true ∨ (numRd r).2.s.length - (numRd r).2.p < (numRd r).1
  · rw [if_pos hc] at h'; cases h'
  rw [if_neg hc]
  simp only [not_or] at hc
  obtain ⟨u, e1, ⟨b1, l1, d1⟩, s1⟩ := num_backs r v hr (by simpa using hc.1)
  have hlen : (((numRd r).2.s.drop (numRd r).2.p).take (numRd r).1).length = (numRd r).1 := by
    rw [List.length_take, List.length_drop]; omega
  refine ⟨u.drop (numRd r).1, ?_, ⟨b1, ?_, ?_⟩, s1⟩
  · rw [e1, textW, hlen, d1, List.append_assoc, List.take_append_drop]
  · show (numRd r).2.p + (numRd r).1 ≤ (numRd r).2.s.length
    omega
  · show (numRd r).2.s.drop ((numRd r).2.p + (numRd r).1) = _
    rw [← List.drop_drop, d1]
theorem count_backs (m : Nat) : Backs (countRd m) (fun n => numW (n : Int)) := fun r v hr h => by
  have hT : countRd m r = (if m < (numRd r).1 then (0, { (numRd r).2 with bad := true }) else numRd r) := rfl
  rw [hT] at h ⊢
  by_cases hc : m < (numRd r).1
  · rw [if_pos hc] at h; cases h
  rw [if_neg hc] at h ⊢
  exact num_backs r v hr h
end Go.Proofs.YtjjppmbojcgdgaaGreatDoor

namespace Go.Proofs.YtjjppmbojcgdgaaGreatDoor
open Go Go.Abs
attribute [local irreducible] DrawW CallW RetW AC Does CmpW
variable {G : Globs}
def digB (c : UInt8) : Bool := decide (48 ≤ c.toNat ∧ c.toNat ≤ 57)
def isF (s : List UInt8) : Bool := s.all digB
theorem Is_does (s : List UInt8) (hs : s.length < 1000000) : Does Tryz.prog G 211 [.str s] [] fun ae _ => ae = .ret (.bool (isF s)) := by
  refine Does.bodyA tab Tryz.func211 rfl rfl ?_
  refine AC.step tab ?_
  refine gos ?_
  refine AC.cutF tab (fun e h => isF s = true ∧ e = List.replicate 20 .any ∧ h = []) ?_ ?_
  · refine gos ?_
    refine AC.loopC tab (fun f e h => ∃ (i : Nat), f + i = s.length + 1 ∧ i ≤ s.length ∧ isF s = (s.drop i).all digB ∧ e = [.str s, .any, .any, .any, .any, .int .i64 s.length, .int .i64 i] ++ List.replicate 13 .any ∧ h = [])
      (s.length + 1) ⟨_, fgts, 0, by omega, by omega, rfl, rfl, rfl⟩ ?_
    rintro f e h ⟨i, hf, hi, hF, rfl, rfl⟩
    refine gos ?_
    by_cases hlt : i < s.length
    · obtain ⟨c, hc⟩ : ∃ c, s[i]? = some c := ⟨_, List.getElem?_eq_getElem hlt⟩
      rw [List.drop_eq_getElem_cons hlt, List.all_cons, (List.getElem?_eq_some_iff.1 hc).2] at hF
      refine CmpW.T ?_
      refine gos ?_
      refine And.intro (by omega) ⟨c, by rw [Int.toNat_natCast]; exact hc, ?_⟩
      refine gos ?_
      by_cases h1 : c.toNat < 48
      · refine CmpW.T ?_
        refine gos ?_
        refine RetW.plain (by simp) ?_
        simp [hF, digB, show ¬ 48 ≤ c.toNat by omega]
      refine CmpW.f (by simp; omega) ?_
      refine gos ?_
      refine And.intro (by omega) ⟨c, by rw [Int.toNat_natCast]; exact hc, ?_⟩
      refine gos ?_
      by_cases h2 : 57 < c.toNat
      · refine CmpW.T ?_
        refine gos ?_
        refine RetW.plain (by simp) ?_
        simp [hF, digB, show ¬ c.toNat ≤ 57 by omega]
      refine CmpW.f (by simp; omega) ?_
      refine gos ?_
      exact ⟨f - 1, _, 0, by omega, fgts, i + 1, by omega, by omega, by rw [hF]; simp [digB, show 48 ≤ c.toNat by omega, show c.toNat ≤ 57 by omega], rfl, rfl⟩
    · refine CmpW.N ?_
      refine gos ?_
      rw [List.drop_of_length_le (by omega)] at hF
      exact ⟨_, 0, fgts, hF, rfl, rfl⟩
  rintro e h ⟨hF, rfl, rfl⟩
  refine AC.go tab ?_
  refine gos ?_
  refine RetW.plain (by simp) ?_
  rw [hF]
end Go.Proofs.YtjjppmbojcgdgaaGreatDoor

namespace Go.Proofs.YtjjppmbojcgdgaaGreatDoor
open Go Go.Abs
set_option linter.unusedVariables false
set_option linter.unusedSimpArgs false
structure TDec where
  neg : Bool
  digits : List UInt8
  exp : Int
def zeroD : TDec := ⟨false, [], 0⟩
def trimF (s : List UInt8) : List UInt8 := if isF s then Lib.trimLeftB s 48 else []
def heldF (n : Int) : Int := if 30000 < (if n < -30000 then -30000 else n) then 30000 else (if n < -30000 then -30000 else n)
def madeD (neg : Bool) (s : List UInt8) (e : Int) : TDec :=
  if trimF s = [] then zeroD else ⟨neg, Lib.trimRightB (trimF s) 48, heldF (heldF e + (trimF s).length - (Lib.trimRightB (trimF s) 48).length)⟩
def normD (d : TDec) : TDec := madeD d.neg d.digits d.exp
def sgD (b : Bool) : List UInt8 := if b then [45] else []
def strD (d : TDec) : List UInt8 :=
  if trimF (normD d).digits = [] then [48] else if (normD d).exp = 0 then sgD (normD d).neg ++ (normD d).digits else sgD (normD d).neg ++ (normD d).digits ++ [101] ++ Lib.itoa (normD d).exp
def tkB (some l : List UInt8) : Bool := match l with
  | b :: _ => some.contains b
  | [] => false
def skB (some l : List UInt8) : List UInt8 := if tkB some l then l.drop 1 else l
def dgT (l : List UInt8) : List UInt8 := l.takeWhile digB
def dgU (l : List UInt8) : List UInt8 := l.drop (dgT l).length
def intF (a : List UInt8) : Nat × Bool := if isF a = false ∨ 18 < (trimF a).length then (0, false) else ((trimF a).foldl (fun n b => 10 * n + (b.toNat - 48)) 0, true)
def expF (l : List UInt8) : Bool × List UInt8 × Bool × List UInt8 :=
  if tkB [101, 69] l then (tkB [45] (l.drop 1), trimF (dgT (skB [43, 45] (l.drop 1))), decide (dgT (skB [43, 45] (l.drop 1)) ≠ []), dgU (skB [43, 45] (l.drop 1))) else (false, [], true, l)
def parX (neg : Bool) (whole part l3 : List UInt8) : TDec × Int :=
  if (expF l3).2.2.1 = false ∨ (expF l3).2.2.2 ≠ [] then (zeroD, 1)
  else if 1000 < whole.length + part.length ∨ (intF (expF l3).2.1).2 = false ∨ 10000 < (intF (expF l3).2.1).1 then (zeroD, 2)
  else (madeD neg (whole ++ part) ((if (expF l3).1 then -((intF (expF l3).2.1).1 : Int) else ((intF (expF l3).2.1).1 : Int)) - (part.length : Int)), 0)
def parW (neg : Bool) (whole l2 : List UInt8) : TDec × Int :=
  if whole = [] then (zeroD, 1)
  else if tkB [46] l2 then (if dgT (l2.drop 1) = [] then (zeroD, 1) else parX neg whole (dgT (l2.drop 1)) (dgU (l2.drop 1)))
  else parX neg whole [] l2
def parD (s : List UInt8) : TDec × Int := parW (tkB [45] s) (dgT (skB [45] s)) (dgU (skB [45] s))
theorem trimL_head {l : List UInt8} {b : UInt8} {r : List UInt8} (h : Lib.trimLeftB l 48 = b :: r) : b ≠ 48 := by
  induction l with
  | nil => cases h
  | cons x l ih =>
    simp only [Lib.trimLeftB, List.dropWhile_cons] at h
    by_cases hx : x = 48
    · rw [if_pos (by simp [hx])] at h; exact ih h
    · rw [if_neg (by simpa using hx)] at h
      simp only [List.cons.injEq] at h
      rw [← h.1]; exact hx
theorem trimL_same {b : UInt8} {r : List UInt8} (h : b ≠ 48) : Lib.trimLeftB (b :: r) 48 = b :: r := by
  simp only [Lib.trimLeftB, List.dropWhile_cons]
  rw [if_neg (by simpa using h)]
theorem trimL_all {l : List UInt8} (h : isF l = true) : isF (Lib.trimLeftB l 48) = true := by
  unfold isF at *
  rw [List.all_eq_true] at *
  intro x hx
  exact h x ((List.dropWhile_sublist _).subset hx)
theorem trimR_cons {b : UInt8} {r : List UInt8} (h : b ≠ 48) : ∃ r', Lib.trimRightB (b :: r) 48 = b :: r' := by
  unfold Lib.trimRightB
  rw [List.reverse_cons]
  have : ∀ l : List UInt8, ∃ r', ((l ++ [b]).dropWhile (· == 48)).reverse = b :: r' := by
    intro l
    induction l with
    | nil => exact ⟨[], by simp [List.dropWhile_cons, h]⟩
    | cons x l ih =>
      rw [List.cons_append, List.dropWhile_cons]
      split
      · exact ih
      · exact ⟨l.reverse ++ [x], by simp⟩
  exact this r.reverse
theorem trimR_same (l : List UInt8) : Lib.trimRightB (Lib.trimRightB l 48) 48 = Lib.trimRightB l 48 := by
  unfold Lib.trimRightB
  rw [List.reverse_reverse]
  congr 1
  generalize l.reverse = m
  induction m with
  | nil => rfl
  | cons x m ih =>
    simp only [List.dropWhile_cons]
    by_cases hx : (x == 48) = true
    · rw [if_pos hx]; exact ih
    · rw [if_neg hx, List.dropWhile_cons, if_neg hx]
theorem trimR_all {l : List UInt8} (h : isF l = true) : isF (Lib.trimRightB l 48) = true := by
  unfold isF at *
  rw [List.all_eq_true] at *
  intro x hx
  have hx2 : x ∈ (l.reverse.dropWhile (· == 48)) := by simpa [Lib.trimRightB] using hx
  exact h x (by simpa using (List.dropWhile_sublist _).subset hx2)
theorem trimR_len (l : List UInt8) : (Lib.trimRightB l 48).length ≤ l.length := by
  unfold Lib.trimRightB
  rw [List.length_reverse]
  have := (List.dropWhile_sublist (· == (48 : UInt8)) (l := l.reverse)).length_le
  simpa using this
theorem trimL_len (l : List UInt8) : (Lib.trimLeftB l 48).length ≤ l.length := (List.dropWhile_sublist _).length_le
theorem trimF_len (s : List UInt8) : (trimF s).length ≤ s.length := by
  unfold trimF; split
  · exact trimL_len s
  · simp
theorem heldF_bd (n : Int) : -30000 ≤ heldF n ∧ heldF n ≤ 30000 := by unfold heldF; split <;> split <;> omega
theorem heldF_same {n : Int} (h : -30000 ≤ n) (h2 : n ≤ 30000) : heldF n = n := by unfold heldF; rw [if_neg (by omega : ¬ n < -30000), if_neg (by omega)]
def TDec.nf (d : TDec) : Prop := d = zeroD ∨ ((∃ b r, d.digits = b :: r ∧ b ≠ 48) ∧ isF d.digits = true ∧ Lib.trimRightB d.digits 48 = d.digits ∧ -30000 ≤ d.exp ∧ d.exp ≤ 30000)
theorem trimF_same {l : List UInt8} (h : ∃ b r, l = b :: r ∧ b ≠ 48) (h2 : isF l = true) : trimF l = l := by
  obtain ⟨b, r, rfl, hb⟩ := h
  rw [trimF, if_pos h2, trimL_same hb]
theorem made_nf (neg : Bool) (s : List UInt8) (e : Int) : (madeD neg s e).nf := by
  unfold madeD
  split
  · exact .inl rfl
  · rename_i h
    have hi : isF s = true := by
      cases hh : isF s
      · exact absurd (by rw [trimF, if_neg (by simp [hh])]) h
      · rfl
    have ht : trimF s = Lib.trimLeftB s 48 := by rw [trimF, if_pos hi]
    rw [ht] at h ⊢
    cases hc : Lib.trimLeftB s 48 with
    | nil => exact absurd hc h
    | cons b r =>
      have hb := trimL_head hc
      have ha := trimL_all hi
      rw [hc] at ha
      obtain ⟨r', hr⟩ := trimR_cons (r := r) hb
      refine .inr ⟨⟨b, r', hr, hb⟩, trimR_all ha, ?_, (heldF_bd _).1, (heldF_bd _).2⟩
      exact trimR_same _
theorem made_of {d : TDec} (h : d.nf) (neg : Bool) : d ≠ zeroD → madeD neg d.digits d.exp = ⟨neg, d.digits, d.exp⟩ := fun hz => by
  rcases h with h | ⟨h1, h2, h3, h4, h5⟩
  · exact absurd h hz
  · have ht := trimF_same h1 h2
    obtain ⟨b, r, e1, e2⟩ := h1
    unfold madeD
    rw [ht, if_neg (by rw [e1]; simp), h3, heldF_same h4 h5, show d.exp + (d.digits.length : Int) - (d.digits.length : Int) = d.exp by omega, heldF_same h4 h5]
theorem norm_nf {d : TDec} (h : d.nf) : normD d = d := by
  by_cases hz : d = zeroD
  · subst hz; rfl
  · exact made_of h d.neg hz
theorem norm_norm (d : TDec) : normD (normD d) = normD d := norm_nf (made_nf _ _ _)
theorem str_norm (d : TDec) : strD (normD d) = strD d := by unfold strD; rw [norm_norm]
theorem dec_ne (n : Nat) : Lib.decDigits n ≠ [] := by
  rw [Lib.decDigits]; split <;> simp
theorem dec_is (n : Nat) : isF (Lib.decDigits n) = true := by
  induction n using Nat.strongRecOn with
  | _ n ih =>
    rw [Lib.decDigits]
    have hd : ∀ k, k < 10 → digB (UInt8.ofNat (48 + k)) = true := fun k hk => by
      simp only [digB, decide_eq_true_eq]; rw [UInt8.toNat_ofNat']; omega
    split
    · rename_i h; simp only [isF, List.all_cons, List.all_nil, Bool.and_true]; exact hd n h
    · have := ih (n / 10) (by omega)
      unfold isF at *
      rw [List.all_append, this]
      simp only [List.all_cons, List.all_nil, Bool.and_true, Bool.true_and]; exact hd _ (Nat.mod_lt _ (by decide))
theorem dec_val (n : Nat) : (Lib.decDigits n).foldl (fun n b => 10 * n + (b.toNat - 48)) 0 = n := by
  induction n using Nat.strongRecOn with
  | _ n ih =>
    rw [Lib.decDigits]
    split
    · simp only [List.foldl_cons, List.foldl_nil]; rw [UInt8.toNat_ofNat']; omega
    · rw [List.foldl_append, ih (n / 10) (by omega)]
      simp only [List.foldl_cons, List.foldl_nil]; rw [UInt8.toNat_ofNat']; omega
theorem dec_head (n : Nat) (h : 0 < n) : ∃ b r, Lib.decDigits n = b :: r ∧ b ≠ 48 := by
  induction n using Nat.strongRecOn with
  | _ n ih =>
    rw [Lib.decDigits]
    split
    · refine ⟨_, [], rfl, fun h2 => ?_⟩
      have := congrArg UInt8.toNat h2
      rw [UInt8.toNat_ofNat'] at this
      simp at this
      omega
    · obtain ⟨b, r, e1, e2⟩ := ih (n / 10) (by omega) (by omega)
      exact ⟨b, r ++ [UInt8.ofNat (48 + n % 10)], by rw [e1]; rfl, e2⟩
theorem dec_len : ∀ (k n : Nat), n < 10 ^ (k + 1) → (Lib.decDigits n).length ≤ k + 1
  | 0, n, h => by rw [Lib.decDigits, dif_pos (by simpa using h)]; simp
  | k + 1, n, h => by
    rw [Lib.decDigits]
    split
    · simp
    · have := dec_len k (n / 10) (by rw [Nat.pow_succ] at h; omega)
      simp only [List.length_append, List.length_cons, List.length_nil]; omega
theorem dgT_app {l r : List UInt8} (h : isF l = true) (hr : tkB [48, 49, 50, 51, 52, 53, 54, 55, 56, 57] r = false) : dgT (l ++ r) = l ∧ dgU (l ++ r) = r := by
  have h1 : dgT (l ++ r) = l := by
    unfold dgT
    induction l with
    | nil =>
      cases r with
      | nil => rfl
      | cons b r =>
        have hb : digB b = false := by
          cases hd : digB b
          · rfl
          · exfalso
            simp only [digB, decide_eq_true_eq] at hd
            simp only [tkB, List.contains_eq_mem, List.mem_cons, List.not_mem_nil, or_false, decide_eq_false_iff_not, not_or] at hr
            have : b = UInt8.ofNat b.toNat := by simp
            have h3 : b.toNat = 48 ∨ b.toNat = 49 ∨ b.toNat = 50 ∨ b.toNat = 51 ∨ b.toNat = 52 ∨ b.toNat = 53 ∨ b.toNat = 54 ∨ b.toNat = 55 ∨ b.toNat = 56 ∨ b.toNat = 57 := by omega
            rcases h3 with h3 | h3 | h3 | h3 | h3 | h3 | h3 | h3 | h3 | h3 <;> rw [h3] at this <;> subst this <;> simp at hr
        rw [List.nil_append, List.takeWhile_cons, hb]; rfl
    | cons b l ih =>
      simp only [isF, List.all_cons, Bool.and_eq_true] at h
      rw [List.cons_append, List.takeWhile_cons, if_pos h.1, ih h.2]
  refine ⟨h1, ?_⟩
  unfold dgU
  rw [h1, List.drop_left]
theorem tk_dig {l : List UInt8} {some : List UInt8} (h : isF l = true) (hs : ∀ x ∈ some, digB x = false) : tkB some l = false := by
  cases l with
  | nil => rfl
  | cons b l =>
    simp only [isF, List.all_cons, Bool.and_eq_true] at h
    cases hc : some.contains b
    · exact hc
    · have := hs b (by simpa using hc)
      rw [h.1] at this; cases this
theorem par_sign (neg : Bool) {ds r : List UInt8} (h1 : ds ≠ []) (h : isF ds = true) (hr : tkB [48, 49, 50, 51, 52, 53, 54, 55, 56, 57] r = false) : parD (sgD neg ++ ds ++ r) = parW neg ds r := by
  obtain ⟨a1, a2⟩ := dgT_app h hr
  unfold parD
  cases neg
  · have : tkB [45] (ds ++ r) = false := by
      cases ds with
      | nil => exact absurd rfl h1
      | cons b l =>
        have : tkB [45] (b :: l) = false := tk_dig h (by decide)
        exact this
    simp only [sgD, Bool.false_eq_true, if_false, List.nil_append, skB, this, a1, a2]
  · simp only [sgD, if_true, List.cons_append, List.nil_append]
    have : tkB [45] (45 :: (ds ++ r)) = true := rfl
    simp only [skB, this, if_true, List.drop_succ_cons, List.drop_zero, a1, a2]
theorem int_dec {n : Nat} (h0 : 0 < n) (h : n < 10 ^ 18) : intF (trimF (Lib.decDigits n)) = (n, true) := by
  have h1 := dec_is n
  have h2 := trimF_same (dec_head n h0) h1
  have h3 := dec_len 17 n h
  unfold intF
  rw [h2, h2, h1, if_neg (by simp; omega), dec_val]
theorem exp_itoa {e : Int} (h0 : e ≠ 0) : ∃ n : Nat, 0 < n ∧ (n : Int) = (if e < 0 then -e else e) ∧ expF (101 :: Lib.itoa e) = (decide (e < 0), trimF (Lib.decDigits n), true, []) := by
  refine ⟨e.natAbs, by omega, by split <;> omega, ?_⟩
  have h1 := dec_is e.natAbs
  obtain ⟨a1, a2⟩ := dgT_app (r := []) h1 rfl
  rw [List.append_nil] at a1 a2
  unfold expF
  rw [if_pos (show tkB [101, 69] (101 :: Lib.itoa e) = true from rfl)]
  simp only [List.drop_succ_cons, List.drop_zero]
  have hne : (decide (Lib.decDigits e.natAbs ≠ []) : Bool) = true := decide_eq_true (dec_ne _)
  by_cases hn : e < 0
  · have hi : Lib.itoa e = 45 :: Lib.decDigits e.natAbs := by rw [Lib.itoa, if_pos hn]
    rw [hi]
    have t1 : tkB [45] (45 :: Lib.decDigits e.natAbs) = true := rfl
    have t2 : skB [43, 45] (45 :: Lib.decDigits e.natAbs) = Lib.decDigits e.natAbs := rfl
    rw [t1, t2, a1, a2, hne, decide_eq_true hn]
  · have hi : Lib.itoa e = Lib.decDigits e.natAbs := by rw [Lib.itoa, if_neg hn]; congr 1; omega
    rw [hi]
    have t1 : tkB [45] (Lib.decDigits e.natAbs) = false := tk_dig h1 (by decide)
    have t2 : skB [43, 45] (Lib.decDigits e.natAbs) = Lib.decDigits e.natAbs := by
      have : tkB [43, 45] (Lib.decDigits e.natAbs) = false := tk_dig h1 (by decide)
      rw [skB, this]; rfl
    rw [t1, t2, a1, a2, hne, decide_eq_false hn]
theorem par_str (d : TDec) (h : (parD (strD d)).2 = 0) : (parD (strD d)).1 = normD d := by
  have hn := made_nf d.neg d.digits d.exp
  rw [← show normD d = madeD d.neg d.digits d.exp from rfl] at hn
  unfold strD at *
  generalize normD d = e at *
  by_cases hz : e = zeroD
  · subst hz
    rw [if_pos (show trimF zeroD.digits = [] from rfl)]
    rfl
  have hmk := made_of hn
  rcases hn with hn | ⟨h1, h2, h3, h4, h5⟩
  · exact absurd hn hz
  have ht := trimF_same h1 h2
  have hne : e.digits ≠ [] := by obtain ⟨b, r, e1, _⟩ := h1; rw [e1]; simp
  rw [ht, if_neg hne] at h ⊢
  by_cases he : e.exp = 0
  · rw [if_pos he] at h ⊢
    have hp := par_sign e.neg (r := []) hne h2 rfl
    rw [List.append_nil] at hp
    rw [hp] at h ⊢
    unfold parW at *
    rw [if_neg hne] at h ⊢
    simp only [show tkB [46] ([] : List UInt8) = false from rfl, Bool.false_eq_true, if_false] at h ⊢
    unfold parX at *
    simp only [show expF [] = (false, [], true, []) from rfl, show intF [] = (0, true) from rfl, ne_eq, not_true_eq_false, Bool.true_eq_false, or_self, if_false, false_or] at h ⊢
    split at h
    · cases h
    rename_i hl
    rw [if_neg hl]
    have := hmk e.neg hz
    rw [he] at this
    simp only [Bool.false_eq_true, if_false, List.append_nil, List.length_nil]
    show madeD e.neg e.digits 0 = e
    rw [this, ← he]
  · rw [if_neg he] at h ⊢
    rw [List.append_assoc (sgD e.neg ++ e.digits)] at h ⊢
    have hp := par_sign e.neg (r := [101] ++ Lib.itoa e.exp) hne h2 rfl
    rw [hp] at h ⊢
    obtain ⟨n, n0, n1, hx⟩ := exp_itoa he
    have hi : intF (trimF (Lib.decDigits n)) = (n, true) := int_dec n0 (by split at n1 <;> omega)
    unfold parW at *
    rw [if_neg hne] at h ⊢
    simp only [show tkB [46] ([101] ++ Lib.itoa e.exp) = false from rfl, Bool.false_eq_true, if_false] at h ⊢
    unfold parX at *
    simp only [List.cons_append, List.nil_append, hx, hi, ne_eq, not_true_eq_false, Bool.true_eq_false, or_self, if_false, false_or] at h ⊢
    split at h
    · cases h
    rename_i hl
    rw [if_neg hl]
    have := hmk e.neg hz
    simp only [List.append_nil, List.length_nil]
    have hex : ((if decide (e.exp < 0) = true then -(n : Int) else (n : Int)) - ((0 : Nat) : Int)) = e.exp := by
      by_cases hn : e.exp < 0
      · rw [if_pos hn] at n1; simp only [hn, decide_true, if_true]; omega
      · rw [if_neg hn] at n1; simp only [hn, decide_false, Bool.false_eq_true, if_false]; omega
    rw [hex]
    exact this
end Go.Proofs.YtjjppmbojcgdgaaGreatDoor
