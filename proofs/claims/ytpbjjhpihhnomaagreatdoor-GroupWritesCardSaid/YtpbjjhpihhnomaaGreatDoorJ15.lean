/- What is read as digits: the way of the code and the statement's own. -/
import Derived.Test.YtpbjjhpihhnomaaGreatDoorJ01
import Derived.Test.YtpbjjhpihhnomaaGreatDoorJ08
set_option linter.unusedVariables false
set_option linter.unusedSimpArgs false
set_option maxRecDepth 100000
set_option maxHeartbeats 4000000

namespace Go.Proofs.YtpbjjhpihhnomaaGreatDoor
open Go Go.Abs
attribute [local irreducible] DrawW CallW RetW AC Does CmpW
variable {G : Globs}
open Gpl (Part)
def encPt (p : Part) : List AV := [.int .i64 (p.kind : Int), .str p.text]
theorem encPt_two (l : List Part) : ∀ y ∈ l.map encPt, y.length = 2 := fun y hy => by obtain ⟨z, _, rfl⟩ := List.mem_map.1 hy; rfl
def txtP (l : List Part) : List UInt8 := l.flatMap Part.text
theorem flat_snoc {α : Type} (tx : α → List UInt8) {l : List α} {i : Nat} {p : α} (h : l[i]? = some p) : (l.take (i + 1)).flatMap tx = (l.take i).flatMap tx ++ tx p := by
  rw [List.take_add_one, h]
  simp
theorem flat_le {α : Type} (tx : α → List UInt8) (l : List α) (i : Nat) : ((l.take i).flatMap tx).length ≤ (l.flatMap tx).length := by
  have : l.flatMap tx = (l.take i).flatMap tx ++ (l.drop i).flatMap tx := by rw [← List.flatMap_append, List.take_append_drop]
  rw [this, List.length_append]; omega
theorem GTextG_does {α : Type} (kd : α → Int) (tx : α → List UInt8) (l : List α) (hl : l.length < 1000000) (ht : (l.flatMap tx).length < 1000000) :
    Does Tryz.prog G 21 [.fsl (l.map fun p => [.int .i64 (kd p), .str (tx p)])] [] fun ae _ => ae = .ret (.str (l.flatMap tx)) := by
  have ll : (l.map fun p => ([.int .i64 (kd p), .str (tx p)] : List AV)).length = l.length := by simp
  refine Does.bodyA tab Tryz.func21 rfl rfl ?_
  refine AC.step tab ?_
  refine gos ?_
  refine AC.step tab ?_
  refine gos ?_
  intro v0
  refine gos ?_
  intro v1
  refine gos ?_
  refine AC.cutF tab (fun e h => ∃ rv ad, Self 1 v1 ad ∧ e = [.any, .any, .any, .ptr 1 v1 0 0] ++ List.replicate 13 .any ∧ h = [some ⟨rv, 5, 1, byteEs' (l.flatMap tx)⟩, some (bldO 147 v1 ad (.sl 0 rv))]) ?_ ?_
  · refine gos ?_
    rw [ll]
    refine AC.loopC tab (fun f e h => ∃ (i rv : Nat) (ad : AV), f + i = l.length + 1 ∧ i ≤ l.length ∧ Self 1 v1 ad ∧
        e = [.any, .any, .any, .ptr 1 v1 0 0, .any, .any, .fsl (l.map fun p => [.int .i64 (kd p), .str (tx p)]), .int .i64 l.length, .int .i64 i] ++ List.replicate 8 .any ∧
        h = [some ⟨rv, 5, 1, byteEs' ((l.take i).flatMap tx)⟩, some (bldO 147 v1 ad (.sl 0 rv))]) (l.length + 1) ⟨_, fgts, 0, v0, .nilp, by omega, by omega, .nil, rfl, rfl⟩ ?_
    rintro f e h ⟨i, rv, ad, hf, hi, had, rfl, rfl⟩
    refine gos ?_
    by_cases hlt : i < l.length
    · obtain ⟨p, hp⟩ : ∃ p, l[i]? = some p := ⟨_, List.getElem?_eq_getElem hlt⟩
      have h1 := flat_le tx l i
      have h2 := flat_le tx l (i + 1)
      rw [flat_snoc tx hp, List.length_append] at h2
      refine CmpW.T ?_
      refine gos ?_
      refine And.intro (fun y hy => by obtain ⟨z, _, rfl⟩ := List.mem_map.1 hy; rfl) (And.intro (by omega) ⟨[.int .i64 (kd p), .str (tx p)], by rw [Int.toNat_natCast, List.getElem?_map, hp]; rfl, ?_⟩)
      refine gos ?_
      intro v2
      refine gos ?_
      refine CallW.bldW (i := 1) (j := 0) (by decide) had rfl rfl (fun a' h => WriteString_does _ h (tx p) (by omega)) rfl rfl (fun rv' => ?_)
      refine gos ?_
      exact ⟨f - 1, _, 2, by omega, fgts, i + 1, rv', _, by omega, by omega, .at_, rfl, by rw [flat_snoc tx hp]; rfl⟩
    · refine CmpW.N ?_
      refine gos ?_
      have : i = l.length := by omega
      subst this
      exact ⟨_, 2, fgts, rv, ad, had, rfl, by rw [List.take_length]; rfl⟩
  rintro e h ⟨rv, ad, had, rfl, rfl⟩
  refine AC.go tab ?_
  refine gos ?_
  refine CallW.bldS (i := 1) (j := 0) (by decide) had rfl rfl (fun a' h => String_bld _ h) rfl rfl ?_
  refine gos ?_
  refine RetW.plain (by simp) ?_
  rfl
theorem GText_does (l : List Part) (hl : l.length < 1000000) (ht : (txtP l).length < 1000000) : Does Tryz.prog G 21 [.fsl (l.map encPt)] [] fun ae _ => ae = .ret (.str (txtP l)) :=
  GTextG_does (fun p => (p.kind : Int)) Part.text l hl ht
def dgB (b : UInt8) : UInt8 := UInt8.ofNat (48 + b.toNat % 10)
theorem dgB_n (b : UInt8) : (dgB b).toNat = 48 + b.toNat % 10 := by
  have : b.toNat % 10 < 10 := Nat.mod_lt _ (by omega)
  rw [dgB, UInt8.toNat_ofNat']
  exact Nat.mod_eq_of_lt (by show _ < 256; omega)
theorem dgB_w (b : UInt8) : IntKind.u8.wrap (48 + ((b.toNat % 10 : Nat) : Int)) = ((dgB b).toNat : Int) := by
  have hw := wrap_u8 (n := 48 + ((b.toNat % 10 : Nat) : Int)) (by omega) (by omega)
  rw [hw, dgB_n]
  omega
theorem Digits_does (l : List UInt8) (hl : l.length < 1000000) : Does Tryz.prog G 62 [.fsl (byteEs' l)] [] fun ae _ => ae = .ret (.str (l.map dgB)) := by
  have ll : (byteEs' l).length = l.length := by simp [byteEs']
  refine Does.bodyA tab Tryz.func62 rfl rfl ?_
  refine AC.step tab ?_
  refine gos ?_
  refine AC.step tab ?_
  refine gos ?_
  refine AC.cutF tab (fun e h => e = [.any, .any, .any, .str (l.map dgB)] ++ List.replicate 17 .any ∧ h = []) ?_ ?_
  · refine gos ?_
    rw [ll]
    refine AC.loopC tab (fun f e h => ∃ (i : Nat), f + i = l.length + 1 ∧ i ≤ l.length ∧
        e = [.any, .any, .any, .str ((l.take i).map dgB), .any, .any, .fsl (byteEs' l), .int .i64 l.length, .int .i64 i] ++ List.replicate 12 .any ∧ h = []) (l.length + 1) ⟨_, fgts, 0, by omega, by omega, rfl, rfl⟩ ?_
    rintro f e h ⟨i, hf, hi, rfl, rfl⟩
    refine gos ?_
    by_cases hlt : i < l.length
    · obtain ⟨b, hb⟩ : ∃ b, l[i]? = some b := ⟨_, List.getElem?_eq_getElem hlt⟩
      refine CmpW.T ?_
      refine gos ?_
      refine And.intro (fun y hy => by obtain ⟨z, _, rfl⟩ := List.mem_map.1 hy; rfl) (And.intro (by omega) ⟨[.int .u8 (b.toNat : Int)], by rw [Int.toNat_natCast]; unfold byteEs'; rw [List.getElem?_map, hb]; rfl, ?_⟩)
      refine gos ?_
      refine And.intro (by decide) ⟨((b.toNat % 10 : Nat) : Int), by rw [Int.tmod_eq_emod_of_nonneg (by omega)]; omega, ?_⟩
      refine gos ?_
      rw [dgB_w b]
      intro v1
      refine gos ?_
      refine ⟨[dgB b], rfl, ?_⟩
      refine gos ?_
      refine And.intro (by simp; omega) ?_
      rw [show (l.take i).map dgB ++ [dgB b] = (l.take (i + 1)).map dgB from by rw [List.take_add_one, hb, List.map_append]; rfl]
      refine gos ?_
      exact ⟨f - 1, _, 0, by omega, fgts, i + 1, by omega, by omega, rfl, rfl⟩
    · refine CmpW.N ?_
      refine gos ?_
      have : i = l.length := by omega
      subst this
      rw [List.take_length]
      exact ⟨_, 0, fgts, rfl, rfl⟩
  rintro e h ⟨rfl, rfl⟩
  refine AC.go tab ?_
  refine gos ?_
  refine RetW.plain (by simp) ?_
  rfl
structure TVis where
  neg : Bool
  int : List UInt8
  frac : List UInt8
def visC (v : TVis) : List AV := [.bool v.neg, .str v.int, .str v.frac]
def shownF (a b : List UInt8) : TVis := ⟨false, if a = [] ∧ b = [] then [48] else a.map dgB, b.map dgB⟩
theorem Shown_does (a b : List UInt8) (ha : a.length < 1000000) (hb : b.length < 1000000) : Does Tryz.prog G 15 [.fsl (byteEs' a), .fsl (byteEs' b)] [] fun ae _ => ae = .ret (.agg (visC (shownF a b))) := by
  refine Does.bodyA tab Tryz.func15 rfl rfl ?_
  refine AC.step tab ?_
  refine gos ?_
  intro v0
  refine gos ?_
  refine AC.step tab ?_
  refine gos ?_
  refine CallW.pure (Digits_does a ha) rfl rfl ?_
  refine gos ?_
  refine CallW.pure (Digits_does b hb) rfl rfl ?_
  refine gos ?_
  intro v1
  refine gos ?_
  refine AC.step tab ?_
  refine gos ?_
  by_cases ha0 : a = []
  · refine CmpW.t (by simp [ha0]) ?_
    refine gos ?_
    by_cases hb0 : b = []
    · refine CmpW.t (by simp [hb0]) ?_
      refine gos ?_
      refine AC.go tab ?_
      refine gos ?_
      refine RetW.plain (by simp) ?_
      simp [shownF, visC, ha0, hb0]
    · refine CmpW.f (by simp [hb0]) ?_
      refine gos ?_
      refine AC.go tab ?_
      refine gos ?_
      refine RetW.plain (by simp) ?_
      simp [shownF, visC, ha0, hb0]
  · refine CmpW.f (by simp [ha0]) ?_
    refine gos ?_
    refine AC.go tab ?_
    refine gos ?_
    refine RetW.plain (by simp) ?_
    simp [shownF, visC, ha0]
end Go.Proofs.YtpbjjhpihhnomaaGreatDoor

namespace Go.Proofs.YtpbjjhpihhnomaaGreatDoor
open Go Go.Abs
set_option linter.unusedVariables false
set_option linter.unusedSimpArgs false
namespace Grd
structure Loc where
  dg : List (List UInt8)
  comma : List UInt8
  point : List UInt8
  oneC : Bool
  oneP : Bool
def digOne : List (List UInt8) → Nat → List UInt8 → Option (Nat × Nat)
  | [], _, _ => none
  | t :: ts, d, s => if t ≠ [] ∧ t.isPrefixOf s = true then some (d, t.length) else digOne ts (d + 1) s
def nextF (l : Loc) (s : List UInt8) : Nat × Nat × Nat :=
  match digOne l.dg 0 s with
  | some (d, n) => (1, d, n)
  | none => if l.oneC && l.comma.isPrefixOf s then (2, 0, l.comma.length) else if l.oneP && l.point.isPrefixOf s then (3, 0, l.point.length) else (0, 0, 0)
structure St where
  pt : Bool
  last : Nat
  int : List UInt8
  frac : List UInt8
def St.init : St := ⟨false, 2, [], []⟩
def stepF (x : St) (k d : Nat) : Option St :=
  if k = 0 ∨ k = 2 ∧ (x.pt = true ∨ x.last ≠ 1) ∨ k = 3 ∧ (x.pt = true ∨ x.last = 2 ∧ x.int ≠ []) then none
  else if k = 3 then some { x with pt := true, last := k }
  else if k = 1 then (if x.pt then some { x with frac := x.frac ++ [UInt8.ofNat (48 + d)], last := k } else some { x with int := x.int ++ [UInt8.ofNat (48 + d)], last := k })
  else some { x with last := k }
def readF (l : Loc) : Nat → St → List UInt8 → Option (List UInt8 × List UInt8)
  | _, x, [] => if x.last ≠ 1 then none else some (x.int, x.frac)
  | 0, _, _ :: _ => none
  | f + 1, x, s => match stepF x (nextF l s).1 (nextF l s).2.1 with
    | none => none
    | some y => readF l f y (s.drop (nextF l s).2.2)
abbrev Tok := Nat × Nat
def sgn (l : Loc) (t : Tok) : List UInt8 := match t.1 with
  | 1 => l.dg[t.2]?.getD []
  | 2 => l.comma
  | 3 => l.point
  | _ => [120]
def runP : St → List Tok → Option (List UInt8 × List UInt8)
  | x, [] => if x.last ≠ 1 then none else some (x.int, x.frac)
  | x, t :: ts => match stepF x t.1 t.2 with
    | none => none
    | some y => runP y ts
structure Lw where
  right : Bool
  pt : Bool
  last : Nat
  int : List UInt8
  frac : List UInt8
def stepL (x : Lw) (t : Tok) : Lw :=
  if t.1 = 1 then { x with last := 1, int := if x.pt then x.int else x.int ++ [UInt8.ofNat (48 + t.2)], frac := if x.pt then x.frac ++ [UInt8.ofNat (48 + t.2)] else x.frac }
  else if t.1 = 2 then { x with right := x.right && !x.pt && decide (x.last = 1), last := 2 }
  else if t.1 = 3 then { x with right := x.right && !x.pt && (decide (x.last = 1) || decide (x.int = []) && decide (x.last = 2)), pt := true, last := 3 }
  else { x with right := false, last := 0 }
def runL (x : Lw) (ts : List Tok) : Lw := ts.foldl stepL x
theorem runL_wrong : ∀ (ts : List Tok) (x : Lw), x.right = false → (runL x ts).right = false
  | [], x, h => h
  | t :: ts, x, h => by
    refine runL_wrong ts (stepL x t) ?_
    unfold stepL
    split
    · exact h
    · split
      · simp [h]
      · split
        · simp [h]
        · rfl
theorem both : ∀ (ts : List Tok) (x : Lw), (∀ t ∈ ts, t.1 ≤ 3) → x.right = true → (x.pt = false → x.last = 1 ∨ x.last = 2) →
    runP ⟨x.pt, x.last, x.int, x.frac⟩ ts = (if (runL x ts).right = true ∧ (runL x ts).last = 1 then some ((runL x ts).int, (runL x ts).frac) else none)
  | [], x, _, hr, _ => by
    simp only [runP, runL, List.foldl_nil, hr, true_and]
    by_cases h : x.last = 1 <;> simp [h]
  | t :: ts, x, hk, hr, hl => by
    obtain ⟨k, d⟩ := t
    have hk3 : k ≤ 3 := hk (k, d) (by simp)
    have hrest : ∀ t ∈ ts, t.1 ≤ 3 := fun t ht => hk t (by simp [ht])
    have e : runL x ((k, d) :: ts) = runL (stepL x (k, d)) ts := rfl
    rw [e]
    have : k = 0 ∨ k = 1 ∨ k = 2 ∨ k = 3 := by omega
    rcases this with rfl | rfl | rfl | rfl
    · have hw := runL_wrong ts (stepL x (0, d)) rfl
      simp [runP, stepF, hw]
    · by_cases hp : x.pt = true
      · have ih := both ts (stepL x (1, d)) hrest (by simp [stepL, hr]) (fun _ => .inl rfl)
        rw [← ih]
        simp [runP, stepF, stepL, hp]
      · have hp' : x.pt = false := by simpa using hp
        have ih := both ts (stepL x (1, d)) hrest (by simp [stepL, hr]) (fun _ => .inl rfl)
        rw [← ih]
        simp [runP, stepF, stepL, hp']
    · by_cases hc : x.pt = true ∨ x.last ≠ 1
      · have hw := runL_wrong ts (stepL x (2, d)) (by
          rcases hc with h | h <;> simp [stepL, h])
        simp [runP, stepF, hc, hw]
      · have h1 : x.pt = false := by
          cases h : x.pt
          · rfl
          · exact absurd (.inl h) hc
        have h2 : x.last = 1 := by
          apply Classical.byContradiction
          intro h; exact hc (.inr h)
        have ih := both ts (stepL x (2, d)) hrest (by simp [stepL, hr, h1, h2]) (fun _ => .inr rfl)
        rw [← ih]
        simp [runP, stepF, stepL, h1, h2]
    · by_cases hc : x.pt = true ∨ x.last = 2 ∧ x.int ≠ []
      · have hw := runL_wrong ts (stepL x (3, d)) (by
          rcases hc with h | ⟨h, h'⟩
          · simp [stepL, h]
          · simp [stepL, h, h'])
        simp [runP, stepF, hc, hw]
      · have h1 : x.pt = false := by
          cases h : x.pt
          · rfl
          · exact absurd (.inl h) hc
        have h2 : x.last = 1 ∨ x.int = [] ∧ x.last = 2 := by
          rcases hl h1 with h | h
          · exact .inl h
          · right
            refine ⟨?_, h⟩
            apply Classical.byContradiction
            intro h'; exact hc (.inr ⟨h, h'⟩)
        have ih := both ts (stepL x (3, d)) hrest (by
          rcases h2 with h | ⟨h, h'⟩ <;> simp [stepL, hr, h1, h]
          simp [h']) (fun h => by simp [stepL] at h)
        rw [← ih]
        rcases h2 with h | ⟨h, h'⟩
        · simp [runP, stepF, stepL, h1, h]
        · simp [runP, stepF, stepL, h1, h, h']
def Plainly (l : Loc) (ts : List Tok) : Prop := ∀ t ∈ ts, sgn l t ≠ [] ∧ (∀ r, (nextF l (sgn l t ++ r)).1 = t.1 ∧ (t.1 = 1 → (nextF l (sgn l t ++ r)).2.1 = t.2) ∧ (t.1 ≠ 0 → (nextF l (sgn l t ++ r)).2.2 = (sgn l t).length))
theorem stepF_dig {x : St} {k d d' : Nat} (h : k = 1 → d = d') : stepF x k d = stepF x k d' := by
  by_cases hk : k = 1
  · rw [h hk]
  · simp [stepF, hk]
theorem read_run (l : Loc) : ∀ (ts : List Tok) (x : St) (f : Nat), (ts.flatMap (sgn l)).length ≤ f → Plainly l ts → readF l f x (ts.flatMap (sgn l)) = runP x ts
  | [], x, f, _, _ => by cases f <;> simp [readF, runP]
  | t :: ts, x, f, hf, hp => by
    obtain ⟨h1, h2⟩ := hp t (by simp)
    obtain ⟨a1, a2, a3⟩ := h2 (ts.flatMap (sgn l))
    simp only [List.flatMap_cons]
    simp only [List.flatMap_cons, List.length_append] at hf
    have hpos : 0 < (sgn l t).length := List.length_pos_iff.2 h1
    obtain ⟨b, s', hs⟩ : ∃ b s', sgn l t ++ ts.flatMap (sgn l) = b :: s' := by
      cases h : sgn l t with
      | nil => exact absurd h h1
      | cons b r => exact ⟨b, _, rfl⟩
    cases f with
    | zero => omega
    | succ f =>
      have e : readF l (f + 1) x (sgn l t ++ ts.flatMap (sgn l)) = match stepF x t.1 t.2 with
          | none => none
          | some y => readF l f y ((sgn l t ++ ts.flatMap (sgn l)).drop (nextF l (sgn l t ++ ts.flatMap (sgn l))).2.2) := by
        rw [hs] at a1 a2 ⊢
        simp only [readF, a1, stepF_dig (x := x) a2]
      rw [e]
      simp only [runP]
      cases hst : stepF x t.1 t.2 with
      | none => rfl
      | some y =>
        have h0 : t.1 ≠ 0 := by
          intro h
          rw [h] at hst
          simp [stepF] at hst
        simp only
        rw [a3 h0, List.drop_left]
        exact read_run l ts y f (by omega) (fun t ht => hp t (by simp [ht]))
end Grd
end Go.Proofs.YtpbjjhpihhnomaaGreatDoor
