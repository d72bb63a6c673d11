/- How many digits each group has. -/
import Derived.Test.YtpbjjhpihhnomaaGreatDoorJ01
import Derived.Test.YtpbjjhpihhnomaaGreatDoorJ15
set_option linter.unusedVariables false
set_option linter.unusedSimpArgs false
set_option maxRecDepth 100000
set_option maxHeartbeats 4000000

namespace Go.Proofs.YtpbjjhpihhnomaaGreatDoor
open Go Go.Abs
attribute [local irreducible] DrawW CallW RetW AC Does CmpW
def rightF (s : List UInt8) : Bool := Lib.validD s
theorem ValidString_does (m : Int) (s : List UInt8) (hs : s.length < 4294967296) : Does Tryz.prog (GL m) 200 [.str s] [] fun ae _ => ae = .ret (.bool (rightF s)) :=
  Does.of_calls (v := .bool (rightF s)) Tryz.func200 rfl rfl (fun C => by simp [RepF]) fun C cargs hg hr => by
    rw [rep_str1 hr]
    exact Any.utf8_ValidString Tryz.laysValid ⟨⟨s⟩⟩ C.w (by simp [str_size]; omega) (tabs hg)
def runesF (s : List UInt8) : Nat := Lib.runeCount ⟨⟨s⟩⟩
theorem RuneCount_does (G : Globs) (s : List UInt8) (hs : s.length < 4294967296) : Does Tryz.prog G 206 [.str s] [] fun ae _ => ae = .ret (.int .i64 (runesF s)) :=
  Does.of_calls (v := .int .i64 (runesF s)) Tryz.func206 rfl rfl (fun C => by simp [RepF]) fun C cargs hg hr => by
    rw [rep_str1 hr]
    refine (Tryz.utf8_RuneCountInString ⟨⟨s⟩⟩ C.w (by simp [str_size]; omega)).mono ?_
    rintro e w' ⟨rfl, pos, rfl⟩
    exact ⟨rfl, (RowKit.Below.refl _ _).alloc (Nat.le_refl _) _⟩
theorem Right_does (m : Int) (s : List UInt8) (hs : s.length < 4294967296) : Does Tryz.prog (GL m) 140 [.str s] [] fun ae _ => ae = .ret (.bool (rightF s)) := by
  refine Does.body tab Tryz.func140 rfl rfl ?_
  refine gos ?_
  refine CallW.pure (ValidString_does m s hs) rfl rfl ?_
  refine gos ?_
  exact RetW.plain (by simp) rfl
def oneF (s : List UInt8) : Bool := rightF s && (runesF s == 1)
theorem GOne_does (m : Int) (s : List UInt8) (hs : s.length < 4294967296) : Does Tryz.prog (GL m) 153 [.str s] [] fun ae _ => ae = .ret (.bool (oneF s)) := by
  refine Does.body tab Tryz.func153 rfl rfl ?_
  refine gos ?_
  refine CallW.pure (Right_does m s hs) rfl rfl ?_
  cases h : rightF s with
  | false =>
    refine gos ?_
    refine RetW.plain (by simp) ?_
    simp [oneF, h]
  | true =>
    refine gos ?_
    refine CallW.pure (RuneCount_does _ s hs) rfl rfl ?_
    refine gos ?_
    by_cases h1 : runesF s = 1
    · refine CmpW.t (by simp; omega) ?_
      refine gos ?_
      refine RetW.plain (by simp) ?_
      simp [oneF, h, h1]
    · refine CmpW.f (by simp; omega) ?_
      refine gos ?_
      refine RetW.plain (by simp) ?_
      simp [oneF, h, h1]
def newL (t : List UInt8) : List (List UInt8) → Bool
  | [] => true
  | x :: xs => if t = x then false else newL t xs
def setL (ds : List (List UInt8)) : Nat → Nat → Bool
  | 0, _ => true
  | f + 1, i => match ds[i]? with
    | none => true
    | some d => oneF d && newL d (ds.take i) && setL ds f (i + 1)
def setF (ds : List (List UInt8)) : Bool := setL ds 10 0
theorem idx_str {ds : List (List UInt8)} {k : Nat} {d : List UInt8} {K : AV → Prop} (h : ds[k]? = some d) (hk : K (.str d)) : dropK (ds.map AV.str) (k * ti9.size) fun cs => cellsK TY 9 cs K := by
  obtain ⟨hlt, hd⟩ := List.getElem?_eq_some_iff.1 h
  refine dropK_of (by rw [List.length_map]; show k * 1 ≤ _; omega) ?_
  have e1 : (ds.map AV.str).drop (k * ti9.size) = AV.str d :: (ds.map AV.str).drop (k + 1) := by
    show (ds.map AV.str).drop (k * 1) = _
    rw [Nat.mul_one, List.drop_eq_getElem_cons (by rw [List.length_map]; exact hlt)]
    simp [hd]
  rw [e1]
  exact hk
theorem newL_false {t : List UInt8} : ∀ {xs : List (List UInt8)} {k : Nat}, xs[k]? = some t → newL t xs = false
  | [], k, h => by simp at h
  | x :: xs, 0, h => by simp at h; simp [newL, h]
  | x :: xs, k + 1, h => by
    simp only [newL]
    split
    · rfl
    · exact newL_false (k := k) (by simpa using h)
theorem newL_true {t : List UInt8} : ∀ {xs : List (List UInt8)}, (∀ (k : Nat) (x : List UInt8), xs[k]? = some x → t ≠ x) → newL t xs = true
  | [], _ => rfl
  | x :: xs, h => by
    simp only [newL]
    rw [if_neg (h 0 x rfl)]
    exact newL_true fun k y hy => h (k + 1) y (by simpa using hy)
theorem SetValid_does (m : Int) (d0 d1 d2 d3 d4 d5 d6 d7 d8 d9 : List UInt8) (hs : ∀ d ∈ [d0, d1, d2, d3, d4, d5, d6, d7, d8, d9], d.length < 4294967296) :
    Does Tryz.prog (GL m) 96 [.agg [.str d0, .str d1, .str d2, .str d3, .str d4, .str d5, .str d6, .str d7, .str d8, .str d9]] [] fun ae _ => ae = .ret (.bool (setF [d0, d1, d2, d3, d4, d5, d6, d7, d8, d9])) := by
  obtain ⟨ds, hds⟩ : ∃ ds, ds = [d0, d1, d2, d3, d4, d5, d6, d7, d8, d9] := ⟨_, rfl⟩
  have hlen : ds.length = 10 := by rw [hds]; rfl
  rw [← hds] at hs ⊢
  refine Does.bodyA tab Tryz.func96 rfl rfl ?_
  refine AC.step tab ?_
  refine gos ?_
  intro v1
  refine gos ?_
  refine AC.wk (Wk.ptr (k := 1) (i := 0) rfl rfl rfl rfl rfl) ?_
  refine AC.cutF tab (fun e h => setF ds = true ∧ e = List.replicate 27 .any ∧ h = [none]) ?_ ?_
  · refine gos ?_
    refine AC.loopC tab (fun f e h => ∃ i : Nat, f + i = 11 ∧ i ≤ 10 ∧ setF ds = setL ds (10 - i) i ∧
      e = [.any, .fptr [.str d0, .str d1, .str d2, .str d3, .str d4, .str d5, .str d6, .str d7, .str d8, .str d9], .any, .any, .any, .any, .any, .agg [.str d0, .str d1, .str d2, .str d3, .str d4, .str d5, .str d6, .str d7, .str d8, .str d9], .int .i64 i] ++ List.replicate 18 .any ∧ h = [none]) 11 ⟨_, fgts, 0, by omega, by omega, rfl, rfl, rfl⟩ ?_
    rintro f e h ⟨i, hf, hi, hF, rfl, rfl⟩
    refine gos ?_
    by_cases h10 : i < 10
    · obtain ⟨d, hd⟩ : ∃ d, ds[i]? = some d := ⟨_, List.getElem?_eq_getElem (by omega)⟩
      have hdm : d.length < 4294967296 := hs d (List.mem_of_getElem? hd)
      rw [show 10 - i = (10 - (i + 1)) + 1 by omega] at hF
      simp only [setL, hd] at hF
      refine CmpW.T ?_
      refine gos ?_
      refine And.intro (And.intro (by omega) (by omega)) (idx_str (ds := [d0, d1, d2, d3, d4, d5, d6, d7, d8, d9]) (by rw [← hds]; exact hd) ?_)
      refine gos ?_
      refine CallW.pure (GOne_does m d hdm) rfl rfl ?_
      cases h1 : oneF d with
      | false =>
        refine gos ?_
        refine RetW.plain (by simp) ?_
        rw [hF, h1]; rfl
      | true =>
        rw [h1, Bool.true_and] at hF
        refine gos ?_
        refine And.intro (And.intro rfl (by simp)) ?_
        refine And.intro (And.intro (by omega) (And.intro (by omega) (by omega))) ?_
        obtain ⟨ES, hES⟩ : ∃ ES, ES = List.map (fun c => [c]) (List.drop (Int.toNat 0) (List.take (Int.toNat (i : Int)) [AV.str d0, AV.str d1, AV.str d2, AV.str d3, AV.str d4, AV.str d5, AV.str d6, AV.str d7, AV.str d8, AV.str d9])) := ⟨_, rfl⟩
        rw [← hES]
        have hE2 : ES = (ds.take i).map fun t => [AV.str t] := by rw [hES, hds]; simp [List.map_take]
        have hEl : ES.length = i := by rw [hE2]; simp; omega
        clear hES
        refine gos ?_
        rw [hEl]
        refine AC.loopC tab (fun g e h => ∃ k : Nat, g + k = i + 1 ∧ k ≤ i ∧ (∀ j t, j < k → (ds.take i)[j]? = some t → d ≠ t) ∧
          e = [.any, .fptr [.str d0, .str d1, .str d2, .str d3, .str d4, .str d5, .str d6, .str d7, .str d8, .str d9], .any, .any, .str d, .any, .any, .agg [.str d0, .str d1, .str d2, .str d3, .str d4, .str d5, .str d6, .str d7, .str d8, .str d9], .int .i64 i, .any, .any, .any, .any, .any, .any, .any, .fsl ES, .int .i64 i, .int .i64 k] ++ List.replicate 8 .any ∧ h = [none]) (i + 1) ⟨_, fgts, 0, by omega, by omega, (fun j t hj => by omega), rfl, rfl⟩ ?_
        rintro g e h ⟨k, hg, hk, hall, rfl, rfl⟩
        refine gos ?_
        by_cases hki : k < i
        · obtain ⟨t, ht⟩ : ∃ t, (ds.take i)[k]? = some t := ⟨_, List.getElem?_eq_getElem (by simp; omega)⟩
          refine CmpW.T ?_
          refine gos ?_
          refine And.intro (fun y hy => by rw [hE2] at hy; obtain ⟨z, _, rfl⟩ := List.mem_map.1 hy; rfl) (And.intro (by omega) ⟨[.str t], by rw [hE2, Int.toNat_natCast, List.getElem?_map, ht]; rfl, ?_⟩)
          refine gos ?_
          by_cases hdt : d = t
          · refine CmpW.t (by simpa using hdt) ?_
            refine gos ?_
            refine RetW.plain (by simp) ?_
            rw [hF, newL_false (k := k) (by rw [hdt]; exact ht)]; rfl
          · refine CmpW.f (by simpa using hdt) ?_
            refine gos ?_
            refine ⟨g - 1, _, 1, by omega, fgts, k + 1, by omega, by omega, (fun j u hj hu => ?_), rfl, rfl⟩
            by_cases hjk : j = k
            · subst hjk; rw [ht] at hu; cases hu; exact hdt
            · exact hall j u (by omega) hu
        · refine CmpW.N ?_
          refine gos ?_
          rw [newL_true (fun j u hu => hall j u (by have := (List.getElem?_eq_some_iff.1 hu).1; simp at this; omega) hu), Bool.true_and] at hF
          exact ⟨f - 1, _, 1, by omega, fgts, i + 1, by omega, by omega, hF, rfl, rfl⟩
    · refine CmpW.N ?_
      refine gos ?_
      have : i = 10 := by omega
      subst this
      exact ⟨_, 1, fgts, hF, rfl, rfl⟩
  rintro e h ⟨hF, rfl, rfl⟩
  refine AC.go tab ?_
  refine gos ?_
  refine RetW.plain (by simp) ?_
  rw [hF]
def sonL (t : List UInt8) : List (List UInt8) → Nat → Option (Nat × Nat)
  | [], _ => none
  | d :: ds, i => if d ≠ [] ∧ d.isPrefixOf t = true then some (i, d.length) else sonL t ds (i + 1)
def sonF (ds : List (List UInt8)) (t : List UInt8) : Option (Nat × Nat) := sonL t ds 0
def sonV (r : Option (Nat × Nat)) : AV := match r with
  | some (d, n) => .tuple [.int .i64 d, .int .i64 n]
  | none => .tuple [.int .i64 (-1), .int .i64 0]
theorem SetOne_does (G : Globs) (d0 d1 d2 d3 d4 d5 d6 d7 d8 d9 t : List UInt8) :
    Does Tryz.prog G 152 [.agg [.str d0, .str d1, .str d2, .str d3, .str d4, .str d5, .str d6, .str d7, .str d8, .str d9], .str t] [] fun ae _ => ae = .ret (sonV (sonF [d0, d1, d2, d3, d4, d5, d6, d7, d8, d9] t)) := by
  obtain ⟨ds, hds⟩ : ∃ ds, ds = [d0, d1, d2, d3, d4, d5, d6, d7, d8, d9] := ⟨_, rfl⟩
  have hlen : ds.length = 10 := by rw [hds]; rfl
  rw [← hds]
  refine Does.bodyA tab Tryz.func152 rfl rfl ?_
  refine AC.step tab ?_
  refine gos ?_
  intro v1
  refine gos ?_
  refine AC.wk (Wk.ptr (k := 2) (i := 0) rfl rfl rfl rfl rfl) ?_
  refine AC.cutF tab (fun e h => sonF ds t = none ∧ e = List.replicate 24 .any ∧ h = [none]) ?_ ?_
  · refine gos ?_
    refine AC.loopC tab (fun f e h => ∃ i : Nat, f + i = 11 ∧ i ≤ 10 ∧ sonF ds t = sonL t (ds.drop i) i ∧
      e = [.any, .str t, .any, .any, .any, .any, .any, .any, .agg [.str d0, .str d1, .str d2, .str d3, .str d4, .str d5, .str d6, .str d7, .str d8, .str d9], .int .i64 i] ++ List.replicate 14 .any ∧ h = [none]) 11 ⟨_, fgts, 0, by omega, by omega, rfl, rfl, rfl⟩ ?_
    rintro f e h ⟨i, hf, hi, hF, rfl, rfl⟩
    refine gos ?_
    by_cases h10 : i < 10
    · obtain ⟨d, hd⟩ : ∃ d, ds[i]? = some d := ⟨_, List.getElem?_eq_getElem (by omega)⟩
      have hdr : ds.drop i = d :: ds.drop (i + 1) := by
        rw [List.drop_eq_getElem_cons (by omega)]
        have := List.getElem?_eq_some_iff.1 hd
        rw [this.2]
      rw [hdr] at hF
      simp only [sonL] at hF
      refine CmpW.T ?_
      refine gos ?_
      refine And.intro (And.intro (by omega) (by omega)) (idx_str (ds := [d0, d1, d2, d3, d4, d5, d6, d7, d8, d9]) (by rw [← hds]; exact hd) ?_)
      refine gos ?_
      by_cases h0 : d = []
      · refine CmpW.f (by simpa using h0) ?_
        refine gos ?_
        rw [if_neg (by simp [h0])] at hF
        exact ⟨f - 1, _, 1, by omega, fgts, i + 1, by omega, by omega, hF, rfl, rfl⟩
      · refine CmpW.t (by simpa using h0) ?_
        refine gos ?_
        refine CallW.pure (HasPrefix_does G _ _) rfl rfl ?_
        cases hp : d.isPrefixOf t with
        | true =>
          rw [if_pos ⟨h0, hp⟩] at hF
          refine gos ?_
          refine RetW.plain (by simp) ?_
          rw [hF]; rfl
        | false =>
          rw [if_neg (by simp [hp])] at hF
          refine gos ?_
          exact ⟨f - 1, _, 1, by omega, fgts, i + 1, by omega, by omega, hF, rfl, rfl⟩
    · refine CmpW.N ?_
      refine gos ?_
      have : i = 10 := by omega
      subst this
      rw [List.drop_of_length_le (by omega)] at hF
      exact ⟨_, 1, fgts, hF, rfl, rfl⟩
  rintro e h ⟨hF, rfl, rfl⟩
  refine AC.go tab ?_
  refine gos ?_
  refine RetW.plain (by simp) ?_
  rw [hF]; rfl
end Go.Proofs.YtpbjjhpihhnomaaGreatDoor

namespace Go.Proofs.YtpbjjhpihhnomaaGreatDoor
open Go Go.Abs
attribute [local irreducible] DrawW CallW RetW AC Does CmpW
variable {G : Globs}
def digB (c : UInt8) : Bool := decide (48 ≤ c.toNat ∧ c.toNat ≤ 57)
def isF (s : List UInt8) : Bool := s.all digB
theorem Is_does (s : List UInt8) (hs : s.length < 1000000) : Does Tryz.prog G 64 [.str s] [] fun ae _ => ae = .ret (.bool (isF s)) := by
  refine Does.bodyA tab Tryz.func64 rfl rfl ?_
  refine AC.step tab ?_
  refine gos ?_
  refine AC.cutF tab (fun e h => isF s = true ∧ e = List.replicate 20 .any ∧ h = []) ?_ ?_
  · refine gos ?_
    refine AC.loopC tab (fun f e h => ∃ (i : Nat), f + i = s.length + 1 ∧ i ≤ s.length ∧ isF s = (s.drop i).all digB ∧ e = [.str s, .any, .any, .any, .any, .int .i64 s.length, .int .i64 i] ++ List.replicate 13 .any ∧ h = [])
      (s.length + 1) ⟨_, fgts, 0, by omega, by omega, rfl, rfl, rfl⟩ ?_
    rintro f e h ⟨i, hf, hi, hF, rfl, rfl⟩
    refine gos ?_
    by_cases hlt : i < s.length
    · obtain ⟨c, hc⟩ : ∃ c, s[i]? = some c := ⟨_, List.getElem?_eq_getElem hlt⟩
      rw [List.drop_eq_getElem_cons hlt, List.all_cons, (List.getElem?_eq_some_iff.1 hc).2] at hF
      refine CmpW.T ?_
      refine gos ?_
      refine And.intro (by omega) ⟨c, by rw [Int.toNat_natCast]; exact hc, ?_⟩
      refine gos ?_
      by_cases h1 : c.toNat < 48
      · refine CmpW.T ?_
        refine gos ?_
        refine RetW.plain (by simp) ?_
        simp [hF, digB, show ¬ 48 ≤ c.toNat by omega]
      refine CmpW.f (by simp; omega) ?_
      refine gos ?_
      refine And.intro (by omega) ⟨c, by rw [Int.toNat_natCast]; exact hc, ?_⟩
      refine gos ?_
      by_cases h2 : 57 < c.toNat
      · refine CmpW.T ?_
        refine gos ?_
        refine RetW.plain (by simp) ?_
        simp [hF, digB, show ¬ c.toNat ≤ 57 by omega]
      refine CmpW.f (by simp; omega) ?_
      refine gos ?_
      exact ⟨f - 1, _, 0, by omega, fgts, i + 1, by omega, by omega, by rw [hF]; simp [digB, show 48 ≤ c.toNat by omega, show c.toNat ≤ 57 by omega], rfl, rfl⟩
    · refine CmpW.N ?_
      refine gos ?_
      rw [List.drop_of_length_le (by omega)] at hF
      exact ⟨_, 0, fgts, hF, rfl, rfl⟩
  rintro e h ⟨hF, rfl, rfl⟩
  refine AC.go tab ?_
  refine gos ?_
  refine RetW.plain (by simp) ?_
  rw [hF]
theorem idx_drop {ds : List (List UInt8)} {k : Nat} {d : List UInt8} {K : List AV → Prop} (h : ds[k]? = some d) (hk : ∀ r, K (.str d :: r)) : dropK (ds.map AV.str) (k * ti9.size) K := by
  obtain ⟨hlt, hd⟩ := List.getElem?_eq_some_iff.1 h
  refine dropK_of (by rw [List.length_map]; show k * 1 ≤ _; omega) ?_
  have e1 : (ds.map AV.str).drop (k * ti9.size) = AV.str d :: (ds.map AV.str).drop (k + 1) := by
    show (ds.map AV.str).drop (k * 1) = _
    rw [Nat.mul_one, List.drop_eq_getElem_cons (by rw [List.length_map]; exact hlt)]
    simp [hd]
  rw [e1]
  exact hk _
def wrSet (ds : List (List UInt8)) (s : List UInt8) : List UInt8 := s.flatMap fun c => ds.getD (c.toNat - 48) []
theorem wrSet_len {ds : List (List UInt8)} (hd : ∀ d ∈ ds, d.length ≤ 60) : ∀ s : List UInt8, (wrSet ds s).length ≤ 60 * s.length
  | [] => by simp [wrSet]
  | c :: s => by
    have ih := wrSet_len hd s
    have h1 : (ds.getD (c.toNat - 48) []).length ≤ 60 := by
      rw [List.getD_eq_getElem?_getD]
      cases h : ds[c.toNat - 48]? with
      | none => simp
      | some d => exact hd d (List.mem_of_getElem? h)
    unfold wrSet at *
    simp only [List.flatMap_cons, List.length_append, List.length_cons]
    omega
theorem SetWrite_does (d0 d1 d2 d3 d4 d5 d6 d7 d8 d9 s : List UInt8) (hs : s.length < 1000000) (hi9 : isF s = true) (hd : ∀ d ∈ [d0, d1, d2, d3, d4, d5, d6, d7, d8, d9], d.length ≤ 60) :
    Does Tryz.prog G 17 [.agg [.str d0, .str d1, .str d2, .str d3, .str d4, .str d5, .str d6, .str d7, .str d8, .str d9], .str s] [] fun ae _ => ae = .ret (.str (wrSet [d0, d1, d2, d3, d4, d5, d6, d7, d8, d9] s)) := by
  obtain ⟨ds, hds⟩ : ∃ ds, ds = [d0, d1, d2, d3, d4, d5, d6, d7, d8, d9] := ⟨_, rfl⟩
  rw [← hds] at hd ⊢
  refine Does.bodyA tab Tryz.func17 rfl rfl ?_
  refine AC.step tab ?_
  refine gos ?_
  intro v1
  refine gos ?_
  refine AC.wk (Wk.ptr (k := 2) (i := 0) rfl rfl rfl rfl rfl) ?_
  refine AC.step tab ?_
  refine gos ?_
  refine CallW.pure (Is_does s hs) rfl rfl ?_
  rw [hi9]
  refine gos ?_
  refine AC.step tab ?_
  refine gos ?_
  intro v2
  refine gos ?_
  intro v3
  refine gos ?_
  refine AC.cutF tab (fun e h => ∃ rv ad, Self 2 v3 ad ∧ e = [.any, .any, .any, .any, .any, .ptr 2 v3 0 0] ++ List.replicate 18 .any ∧ h = [none, some ⟨rv, 5, 1, byteEs' (wrSet ds s)⟩, some (bldO 147 v3 ad (.sl 1 rv))]) ?_ ?_
  · refine gos ?_
    refine AC.loopC tab (fun f e h => ∃ (i rv : Nat) (ad : AV), f + i = s.length + 1 ∧ i ≤ s.length ∧ Self 2 v3 ad ∧
        e = [.any, .str s, .fptr [.str d0, .str d1, .str d2, .str d3, .str d4, .str d5, .str d6, .str d7, .str d8, .str d9], .any, .any, .ptr 2 v3 0 0, .any, .any, .any, .any, .any, .int .i64 s.length, .int .i64 i] ++ List.replicate 11 .any ∧
        h = [none, some ⟨rv, 5, 1, byteEs' (wrSet ds (s.take i))⟩, some (bldO 147 v3 ad (.sl 1 rv))]) (s.length + 1) ⟨_, fgts, 0, v2, .nilp, by omega, by omega, .nil, rfl, rfl⟩ ?_
    rintro f e h ⟨i, rv, ad, hf, hi, had, rfl, rfl⟩
    refine gos ?_
    by_cases hlt : i < s.length
    · obtain ⟨c, hc⟩ : ∃ c, s[i]? = some c := ⟨_, List.getElem?_eq_getElem hlt⟩
      refine CmpW.T ?_
      refine gos ?_
      refine And.intro (by omega) ⟨c, by rw [Int.toNat_natCast]; exact hc, ?_⟩
      refine gos ?_
      have hcb : digB c = true := List.all_eq_true.1 hi9 c (List.mem_of_getElem? hc)
      simp only [digB, decide_eq_true_eq] at hcb
      rw [show IntKind.u8.wrap ((c.toNat : Int) - 48) = ((c.toNat - 48 : Nat) : Int) from by rw [wrap_u8 (by omega) (by omega)]; omega]
      obtain ⟨d, hdg⟩ : ∃ d, ds[c.toNat - 48]? = some d := ⟨_, List.getElem?_eq_getElem (by rw [hds]; simp; omega)⟩
      have hdl := hd d (List.mem_of_getElem? hdg)
      have htake : wrSet ds (s.take (i + 1)) = wrSet ds (s.take i) ++ d := by
        unfold wrSet
        rw [List.take_add_one, hc]
        simp [List.getD_eq_getElem?_getD, hdg]
      have hlen := wrSet_len hd (s.take i)
      rw [List.length_take] at hlen
      refine gos ?_
      refine And.intro (And.intro (by omega) (by omega)) (idx_drop (ds := [d0, d1, d2, d3, d4, d5, d6, d7, d8, d9]) (by rw [← hds]; exact hdg) fun r => ?_)
      refine gos ?_
      refine CallW.bldW (i := 2) (j := 1) (by decide) had rfl rfl (fun a' h => WriteString_does _ h d (by omega)) rfl rfl (fun rv' => ?_)
      refine gos ?_
      exact ⟨f - 1, _, 3, by omega, fgts, i + 1, rv', _, by omega, by omega, .at_, rfl, by rw [htake]; rfl⟩
    · refine CmpW.N ?_
      refine gos ?_
      have : i = s.length := by omega
      subst this
      exact ⟨_, 3, fgts, rv, ad, had, rfl, by rw [List.take_length]; rfl⟩
  rintro e h ⟨rv, ad, had, rfl, rfl⟩
  refine AC.go tab ?_
  refine gos ?_
  refine CallW.bldS (i := 2) (j := 1) (by decide) had rfl rfl (fun a' h => String_bld _ h) rfl rfl ?_
  refine gos ?_
  refine RetW.plain (by simp) ?_
  rfl
end Go.Proofs.YtpbjjhpihhnomaaGreatDoor

namespace Go.Proofs.YtpbjjhpihhnomaaGreatDoor
open Go Go.Abs
attribute [local irreducible] DrawW CallW RetW AC Does CmpW
variable {G : Globs}
open Gpl (Part cutL cutsF)
def numE (l : List Nat) : List (List AV) := l.map fun (n : Nat) => [.int .i64 (n : Int)]
theorem numE_one (l : List Nat) : ∀ y ∈ numE l, y.length = 1 := fun y hy => by obtain ⟨z, _, rfl⟩ := List.mem_map.1 hy; rfl
theorem numE_ones (l : List Nat) : ∀ y ∈ numE l, ones y = true := fun y hy => by obtain ⟨z, _, rfl⟩ := List.mem_map.1 hy; rfl
theorem cLL_map {α : Type} {f : α → List AV} (h : ∀ x, closedL (f x) = true) : ∀ l : List α, closedLL (l.map f) = true
  | [] => rfl
  | x :: l => by
    have := cLL_map h l
    show (closedL (f x) && closedLL (l.map f)) = true
    rw [h x, this]; rfl
theorem numE_closed (l : List Nat) : closedLL (numE l) = true := cLL_map (fun _ => rfl) _
theorem cutL_fuel (mo : Nat) (hmo : 0 < mo) : ∀ (f g n : Nat) (acc : List Nat), n ≤ f → n ≤ g → cutL mo f n acc = cutL mo g n acc
  | 0, 0, n, acc, _, _ => rfl
  | 0, g + 1, n, acc, h, _ => by
    have : n = 0 := by omega
    subst this
    simp [cutL]
  | f + 1, 0, n, acc, _, h => by
    have : n = 0 := by omega
    subst this
    simp [cutL]
  | f + 1, g + 1, n, acc, h1, h2 => by
    unfold cutL
    split
    · exact cutL_fuel mo hmo f g _ _ (by omega) (by omega)
    · rfl
theorem cuts_does (n : Nat) (hn : n < 50000) (last more least : Int) (h1 : -1000 ≤ last ∧ last ≤ 1000) (h2 : -1000 ≤ more ∧ more ≤ 1000) (h3 : -1000 ≤ least ∧ least ≤ 1000) :
    Does Tryz.prog G 63 [.int .i64 n, .int .i64 last, .int .i64 more, .int .i64 least] [] fun ae _ => ae = .ret (.fsl (numE (cutsF n last more least))) := by
  refine Does.bodyA tab Tryz.func63 rfl rfl ?_
  refine AC.step tab ?_
  refine gos ?_
  refine AC.step tab ?_
  refine gos ?_
  by_cases ha : last < 1
  · refine CmpW.T ?_
    refine gos ?_
    intro v1
    refine gos ?_
    refine RetW.wk (r' := .fsl [[.int .i64 (n : Int)]]) (by simp) ?_ (Wk.row (k := 0) (i := 0) (o := ⟨v1, 3, 1, [[.int .i64 (n : Int)]]⟩) rfl rfl rfl rfl) ?_
    · rfl
    simp [cutsF, numE, ha]
  refine CmpW.N ?_
  refine gos ?_
  by_cases hb : (n : Int) - (if 0 < least then least else 0) < last
  · refine CmpW.t (by simp only [decide_eq_true_eq]; split at hb <;> split <;> omega) ?_
    refine gos ?_
    intro v1
    refine gos ?_
    refine RetW.wk (r' := .fsl [[.int .i64 (n : Int)]]) (by simp) ?_ (Wk.row (k := 0) (i := 0) (o := ⟨v1, 3, 1, [[.int .i64 (n : Int)]]⟩) rfl rfl rfl rfl) ?_
    · rfl
    simp [cutsF, numE, hb]
  refine CmpW.f (by simp only [decide_eq_false_iff_not]; split at hb <;> split <;> omega) ?_
  refine gos ?_
  obtain ⟨mo, hmo⟩ : ∃ mo : Nat, (mo : Int) = if more < 1 then last else more := ⟨(if more < 1 then last else more).toNat, by split <;> omega⟩
  have hF : cutsF n last more least = cutL mo n (n - last.toNat) [last.toNat] := by
    unfold cutsF
    rw [if_neg (by omega), ← hmo]; rfl
  have hmo1 : 1 ≤ mo ∧ mo ≤ 1000 := by split at hmo <;> omega
  rw [hF]
  clear hF
  refine AC.cutF tab (fun e h => ∃ x : Int, x = mo ∧ e = ([.int .i64 n, .int .i64 last, .int .i64 x] ++ List.replicate 44 .any) ∧ h = []) ?_ ?_
  · refine gos ?_
    by_cases hm : more < 1
    · rw [if_pos hm] at hmo
      refine CmpW.T ?_
      refine gos ?_
      exact ⟨_, 0, fgts, last, hmo.symm, rfl, rfl⟩
    · rw [if_neg hm] at hmo
      refine CmpW.N ?_
      refine gos ?_
      exact ⟨_, 0, fgts, more, hmo.symm, rfl, rfl⟩
  rintro e h ⟨_, rfl, rfl, rfl⟩
  obtain ⟨la, rfl⟩ : ∃ la : Nat, last = la := ⟨last.toNat, by omega⟩
  have hla : la ≤ n := by split at hb <;> omega
  refine AC.step tab ?_
  refine gos ?_
  intro v1
  refine gos ?_
  refine AC.wk (Wk.row (k := 9) (i := 0) rfl rfl rfl rfl) ?_
  refine AC.step tab ?_
  refine gos ?_
  rw [show (n : Int) - (la : Int) = ((n - la : Nat) : Int) by omega]
  refine gos ?_
  rw [Int.toNat_natCast]
  refine AC.cutA (fun e h => ∃ (k : Nat) (acc : List Nat), k ≤ mo ∧ cutL mo n (n - la) [la] = (if 0 < k then k :: acc else acc) ∧ acc.length ≤ 100000 ∧ e = ([.int .i64 k] ++ List.replicate 8 .any ++ [.fsl (numE acc)] ++ List.replicate 37 .any) ∧ h = []) ?_ ?_
  · refine AC.blk ?_
    refine AC.loopA (fun f e h => ∃ (k : Nat) (acc : List Nat), f = k + 1 ∧ k + acc.length ≤ 100000 ∧ cutL mo n (n - la) [la] = cutL mo k k acc ∧ e = ([.int .i64 k] ++ List.replicate 1 .any ++ [.int .i64 mo] ++ List.replicate 6 .any ++ [.fsl (numE acc)] ++ List.replicate 37 .any) ∧ h = [none]) (n - la + 1)
      ⟨_, fgts, n - la, [la], rfl, by simp; omega, cutL_fuel _ (by omega) _ _ _ _ (by omega) (by omega), rfl, rfl⟩ ?_
    rintro f e h ⟨k, acc, hf, hk, hF, rfl, rfl⟩
    have ll : (numE acc).length = acc.length := by simp [numE]
    refine AC.step tab ?_
    refine gos ?_
    by_cases hlt : mo < k
    · refine CmpW.T ?_
      refine gos ?_
      refine AC.step tab ?_
      refine gos ?_
      intro v2
      refine gos ?_
      refine And.intro (And.intro (numE_one _) (numE_ones _)) ?_
      refine gos ?_
      refine gobnd ?_
      refine gos ?_
      intro v3
      refine gos ?_
      refine AC.wk (Wk.row (k := 9) (i := 1) (o := ⟨v3, 3, 1, numE (mo :: acc)⟩) rfl rfl rfl (numE_closed _)) ?_
      refine AC.go tab ?_
      refine gos ?_
      rw [show (k : Int) - (mo : Int) = ((k - mo : Nat) : Int) by omega]
      refine ⟨k - mo + 1, _, 1, by omega, fgts, k - mo, mo :: acc, rfl, by simp; omega, ?_, rfl, rfl⟩
      rw [hF, cutL_fuel mo (by omega) k (k + 1) _ _ (by omega) (by omega)]
      conv => lhs; unfold cutL
      rw [if_pos hlt]
      exact cutL_fuel mo (by omega) _ _ _ _ (by omega) (by omega)
    · refine CmpW.N ?_
      refine gos ?_
      refine ⟨_, 0, fgts, k, acc, by omega, ?_, by omega, rfl, rfl⟩
      rw [hF]
      cases k with
      | zero => rfl
      | succ k => simp only [cutL]; rw [if_neg hlt]
  rintro e h ⟨k, acc, hk, hF, hl, rfl, rfl⟩
  rw [hF]
  have ll : (numE acc).length = acc.length := by simp [numE]
  refine AC.step tab ?_
  refine gos ?_
  by_cases h0 : 0 < k
  · refine CmpW.T ?_
    refine gos ?_
    intro v2
    refine gos ?_
    refine And.intro (And.intro (numE_one _) (numE_ones _)) ?_
    refine gos ?_
    refine gobnd ?_
    refine gos ?_
    intro v3
    refine gos ?_
    refine AC.go tab ?_
    refine gos ?_
    refine RetW.wk (r' := .fsl (numE (k :: acc))) (by simp) ?_ (Wk.row (k := 0) (i := 0) (o := ⟨v3, 3, 1, numE (k :: acc)⟩) rfl rfl rfl (numE_closed _)) ?_
    · rfl
    simp [h0]
  · refine CmpW.N ?_
    refine gos ?_
    refine AC.go tab ?_
    refine gos ?_
    refine RetW.plain (by simp) ?_
    rw [if_neg h0]
end Go.Proofs.YtpbjjhpihhnomaaGreatDoor
