/- The reader of rules: categories, samples. -/
import Derived.Test.YtijdnjngfkohfaaGreatDoorJ02
import Derived.Test.YtijdnjngfkohfaaGreatDoorJ03
import Derived.Test.YtijdnjngfkohfaaGreatDoorJ04
import Derived.Test.YtijdnjngfkohfaaGreatDoorJ07
set_option linter.unusedVariables false
set_option linter.unusedSimpArgs false
set_option maxRecDepth 100000
set_option maxHeartbeats 4000000

namespace Go.Proofs.YtijdnjngfkohfaaGreatDoor
open Go Go.Abs
attribute [local irreducible] DrawW CallW RetW AC Does CmpW
def rightF (s : List UInt8) : Bool := Lib.validD s
theorem ValidString_does (m : Int) (s : List UInt8) (hs : s.length < 4294967296) : Does Tryz.prog (GL m) 185 [.str s] [] fun ae _ => ae = .ret (.bool (rightF s)) :=
  Does.of_calls (v := .bool (rightF s)) Tryz.func185 rfl rfl (fun C => by simp [RepF]) fun C cargs hg hr => by
    rw [rep_str1 hr]
    exact Any.utf8_ValidString Tryz.laysValid ⟨⟨s⟩⟩ C.w (by simp [str_size]; omega) (tabs hg)
def runesF (s : List UInt8) : Nat := Lib.runeCount ⟨⟨s⟩⟩
theorem RuneCount_does (G : Globs) (s : List UInt8) (hs : s.length < 4294967296) : Does Tryz.prog G 211 [.str s] [] fun ae _ => ae = .ret (.int .i64 (runesF s)) :=
  Does.of_calls (v := .int .i64 (runesF s)) Tryz.func211 rfl rfl (fun C => by simp [RepF]) fun C cargs hg hr => by
    rw [rep_str1 hr]
    refine (Tryz.utf8_RuneCountInString ⟨⟨s⟩⟩ C.w (by simp [str_size]; omega)).mono ?_
    rintro e w' ⟨rfl, pos, rfl⟩
    exact ⟨rfl, (RowKit.Below.refl _ _).alloc (Nat.le_refl _) _⟩
theorem Right_does (m : Int) (s : List UInt8) (hs : s.length < 4294967296) : Does Tryz.prog (GL m) 123 [.str s] [] fun ae _ => ae = .ret (.bool (rightF s)) := by
  refine Does.body tab Tryz.func123 rfl rfl ?_
  refine gos ?_
  refine CallW.pure (ValidString_does m s hs) rfl rfl ?_
  refine gos ?_
  exact RetW.plain (by simp) rfl
def oneF (s : List UInt8) : Bool := rightF s && (runesF s == 1)
theorem GOne_does (m : Int) (s : List UInt8) (hs : s.length < 4294967296) : Does Tryz.prog (GL m) 161 [.str s] [] fun ae _ => ae = .ret (.bool (oneF s)) := by
  refine Does.body tab Tryz.func161 rfl rfl ?_
  refine gos ?_
  refine CallW.pure (Right_does m s hs) rfl rfl ?_
  cases h : rightF s with
  | false =>
    refine gos ?_
    refine RetW.plain (by simp) ?_
    simp [oneF, h]
  | true =>
    refine gos ?_
    refine CallW.pure (RuneCount_does _ s hs) rfl rfl ?_
    refine gos ?_
    by_cases h1 : runesF s = 1
    · refine CmpW.t (by simp; omega) ?_
      refine gos ?_
      refine RetW.plain (by simp) ?_
      simp [oneF, h, h1]
    · refine CmpW.f (by simp; omega) ?_
      refine gos ?_
      refine RetW.plain (by simp) ?_
      simp [oneF, h, h1]
def newL (t : List UInt8) : List (List UInt8) → Bool
  | [] => true
  | x :: xs => if t = x then false else newL t xs
def setL (ds : List (List UInt8)) : Nat → Nat → Bool
  | 0, _ => true
  | f + 1, i => match ds[i]? with
    | none => true
    | some d => oneF d && newL d (ds.take i) && setL ds f (i + 1)
def setF (ds : List (List UInt8)) : Bool := setL ds 10 0
theorem idx_str {ds : List (List UInt8)} {k : Nat} {d : List UInt8} {K : AV → Prop} (h : ds[k]? = some d) (hk : K (.str d)) : dropK (ds.map AV.str) (k * ti9.size) fun cs => cellsK TY 9 cs K := by
  obtain ⟨hlt, hd⟩ := List.getElem?_eq_some_iff.1 h
  refine dropK_of (by rw [List.length_map]; show k * 1 ≤ _; omega) ?_
  have e1 : (ds.map AV.str).drop (k * ti9.size) = AV.str d :: (ds.map AV.str).drop (k + 1) := by
    show (ds.map AV.str).drop (k * 1) = _
    rw [Nat.mul_one, List.drop_eq_getElem_cons (by rw [List.length_map]; exact hlt)]
    simp [hd]
  rw [e1]
  exact hk
theorem newL_false {t : List UInt8} : ∀ {xs : List (List UInt8)} {k : Nat}, xs[k]? = some t → newL t xs = false
  | [], k, h => by simp at h
  | x :: xs, 0, h => by simp at h; simp [newL, h]
  | x :: xs, k + 1, h => by
    simp only [newL]
    split
    · rfl
    · exact newL_false (k := k) (by simpa using h)
theorem newL_true {t : List UInt8} : ∀ {xs : List (List UInt8)}, (∀ (k : Nat) (x : List UInt8), xs[k]? = some x → t ≠ x) → newL t xs = true
  | [], _ => rfl
  | x :: xs, h => by
    simp only [newL]
    rw [if_neg (h 0 x rfl)]
    exact newL_true fun k y hy => h (k + 1) y (by simpa using hy)
theorem SetValid_does (m : Int) (d0 d1 d2 d3 d4 d5 d6 d7 d8 d9 : List UInt8) (hs : ∀ d ∈ [d0, d1, d2, d3, d4, d5, d6, d7, d8, d9], d.length < 4294967296) :
    Does Tryz.prog (GL m) 79 [.agg [.str d0, .str d1, .str d2, .str d3, .str d4, .str d5, .str d6, .str d7, .str d8, .str d9]] [] fun ae _ => ae = .ret (.bool (setF [d0, d1, d2, d3, d4, d5, d6, d7, d8, d9])) := by
  obtain ⟨ds, hds⟩ : ∃ ds, ds = [d0, d1, d2, d3, d4, d5, d6, d7, d8, d9] := ⟨_, rfl⟩
  have hlen : ds.length = 10 := by rw [hds]; rfl
  rw [← hds] at hs ⊢
  refine Does.bodyA tab Tryz.func79 rfl rfl ?_
  refine AC.step tab ?_
  refine gos ?_
  intro v1
  refine gos ?_
  refine AC.wk (Wk.ptr (k := 1) (i := 0) rfl rfl rfl rfl rfl) ?_
  refine AC.cutF tab (fun e h => setF ds = true ∧ e = List.replicate 27 .any ∧ h = [none]) ?_ ?_
  · refine gos ?_
    refine AC.loopC tab (fun f e h => ∃ i : Nat, f + i = 11 ∧ i ≤ 10 ∧ setF ds = setL ds (10 - i) i ∧
      e = [.any, .fptr [.str d0, .str d1, .str d2, .str d3, .str d4, .str d5, .str d6, .str d7, .str d8, .str d9], .any, .any, .any, .any, .any, .agg [.str d0, .str d1, .str d2, .str d3, .str d4, .str d5, .str d6, .str d7, .str d8, .str d9], .int .i64 i] ++ List.replicate 18 .any ∧ h = [none]) 11 ⟨_, fgts, 0, by omega, by omega, rfl, rfl, rfl⟩ ?_
    rintro f e h ⟨i, hf, hi, hF, rfl, rfl⟩
    refine gos ?_
    by_cases h10 : i < 10
    · obtain ⟨d, hd⟩ : ∃ d, ds[i]? = some d := ⟨_, List.getElem?_eq_getElem (by omega)⟩
      have hdm : d.length < 4294967296 := hs d (List.mem_of_getElem? hd)
      rw [show 10 - i = (10 - (i + 1)) + 1 by omega] at hF
      simp only [setL, hd] at hF
      refine CmpW.T ?_
      refine gos ?_
      refine And.intro (And.intro (by omega) (by omega)) (idx_str (ds := [d0, d1, d2, d3, d4, d5, d6, d7, d8, d9]) (by rw [← hds]; exact hd) ?_)
      refine gos ?_
      refine CallW.pure (GOne_does m d hdm) rfl rfl ?_
      cases h1 : oneF d with
      | false =>
        refine gos ?_
        refine RetW.plain (by simp) ?_
        rw [hF, h1]; rfl
      | true =>
        rw [h1, Bool.true_and] at hF
        refine gos ?_
        refine And.intro (And.intro rfl (by simp)) ?_
        refine And.intro (And.intro (by omega) (And.intro (by omega) (by omega))) ?_
        obtain ⟨ES, hES⟩ : ∃ ES, ES = List.map (fun c => [c]) (List.drop (Int.toNat 0) (List.take (Int.toNat (i : Int)) [AV.str d0, AV.str d1, AV.str d2, AV.str d3, AV.str d4, AV.str d5, AV.str d6, AV.str d7, AV.str d8, AV.str d9])) := ⟨_, rfl⟩
        rw [← hES]
        have hE2 : ES = (ds.take i).map fun t => [AV.str t] := by rw [hES, hds]; simp [List.map_take]
        have hEl : ES.length = i := by rw [hE2]; simp; omega
        clear hES
        refine gos ?_
        rw [hEl]
        refine AC.loopC tab (fun g e h => ∃ k : Nat, g + k = i + 1 ∧ k ≤ i ∧ (∀ j t, j < k → (ds.take i)[j]? = some t → d ≠ t) ∧
          e = [.any, .fptr [.str d0, .str d1, .str d2, .str d3, .str d4, .str d5, .str d6, .str d7, .str d8, .str d9], .any, .any, .str d, .any, .any, .agg [.str d0, .str d1, .str d2, .str d3, .str d4, .str d5, .str d6, .str d7, .str d8, .str d9], .int .i64 i, .any, .any, .any, .any, .any, .any, .any, .fsl ES, .int .i64 i, .int .i64 k] ++ List.replicate 8 .any ∧ h = [none]) (i + 1) ⟨_, fgts, 0, by omega, by omega, (fun j t hj => by omega), rfl, rfl⟩ ?_
        rintro g e h ⟨k, hg, hk, hall, rfl, rfl⟩
        refine gos ?_
        by_cases hki : k < i
        · obtain ⟨t, ht⟩ : ∃ t, (ds.take i)[k]? = some t := ⟨_, List.getElem?_eq_getElem (by simp; omega)⟩
          refine CmpW.T ?_
          refine gos ?_
          refine And.intro (fun y hy => by rw [hE2] at hy; obtain ⟨z, _, rfl⟩ := List.mem_map.1 hy; rfl) (And.intro (by omega) ⟨[.str t], by rw [hE2, Int.toNat_natCast, List.getElem?_map, ht]; rfl, ?_⟩)
          refine gos ?_
          by_cases hdt : d = t
          · refine CmpW.t (by simpa using hdt) ?_
            refine gos ?_
            refine RetW.plain (by simp) ?_
            rw [hF, newL_false (k := k) (by rw [hdt]; exact ht)]; rfl
          · refine CmpW.f (by simpa using hdt) ?_
            refine gos ?_
            refine ⟨g - 1, _, 1, by omega, fgts, k + 1, by omega, by omega, (fun j u hj hu => ?_), rfl, rfl⟩
            by_cases hjk : j = k
            · subst hjk; rw [ht] at hu; cases hu; exact hdt
            · exact hall j u (by omega) hu
        · refine CmpW.N ?_
          refine gos ?_
          rw [newL_true (fun j u hu => hall j u (by have := (List.getElem?_eq_some_iff.1 hu).1; simp at this; omega) hu), Bool.true_and] at hF
          exact ⟨f - 1, _, 1, by omega, fgts, i + 1, by omega, by omega, hF, rfl, rfl⟩
    · refine CmpW.N ?_
      refine gos ?_
      have : i = 10 := by omega
      subst this
      exact ⟨_, 1, fgts, hF, rfl, rfl⟩
  rintro e h ⟨hF, rfl, rfl⟩
  refine AC.go tab ?_
  refine gos ?_
  refine RetW.plain (by simp) ?_
  rw [hF]
def sonL (t : List UInt8) : List (List UInt8) → Nat → Option (Nat × Nat)
  | [], _ => none
  | d :: ds, i => if d ≠ [] ∧ d.isPrefixOf t = true then some (i, d.length) else sonL t ds (i + 1)
def sonF (ds : List (List UInt8)) (t : List UInt8) : Option (Nat × Nat) := sonL t ds 0
def sonV (r : Option (Nat × Nat)) : AV := match r with
  | some (d, n) => .tuple [.int .i64 d, .int .i64 n]
  | none => .tuple [.int .i64 (-1), .int .i64 0]
theorem SetOne_does (G : Globs) (d0 d1 d2 d3 d4 d5 d6 d7 d8 d9 t : List UInt8) :
    Does Tryz.prog G 162 [.agg [.str d0, .str d1, .str d2, .str d3, .str d4, .str d5, .str d6, .str d7, .str d8, .str d9], .str t] [] fun ae _ => ae = .ret (sonV (sonF [d0, d1, d2, d3, d4, d5, d6, d7, d8, d9] t)) := by
  obtain ⟨ds, hds⟩ : ∃ ds, ds = [d0, d1, d2, d3, d4, d5, d6, d7, d8, d9] := ⟨_, rfl⟩
  have hlen : ds.length = 10 := by rw [hds]; rfl
  rw [← hds]
  refine Does.bodyA tab Tryz.func162 rfl rfl ?_
  refine AC.step tab ?_
  refine gos ?_
  intro v1
  refine gos ?_
  refine AC.wk (Wk.ptr (k := 2) (i := 0) rfl rfl rfl rfl rfl) ?_
  refine AC.cutF tab (fun e h => sonF ds t = none ∧ e = List.replicate 24 .any ∧ h = [none]) ?_ ?_
  · refine gos ?_
    refine AC.loopC tab (fun f e h => ∃ i : Nat, f + i = 11 ∧ i ≤ 10 ∧ sonF ds t = sonL t (ds.drop i) i ∧
      e = [.any, .str t, .any, .any, .any, .any, .any, .any, .agg [.str d0, .str d1, .str d2, .str d3, .str d4, .str d5, .str d6, .str d7, .str d8, .str d9], .int .i64 i] ++ List.replicate 14 .any ∧ h = [none]) 11 ⟨_, fgts, 0, by omega, by omega, rfl, rfl, rfl⟩ ?_
    rintro f e h ⟨i, hf, hi, hF, rfl, rfl⟩
    refine gos ?_
    by_cases h10 : i < 10
    · obtain ⟨d, hd⟩ : ∃ d, ds[i]? = some d := ⟨_, List.getElem?_eq_getElem (by omega)⟩
      have hdr : ds.drop i = d :: ds.drop (i + 1) := by
        rw [List.drop_eq_getElem_cons (by omega)]
        have := List.getElem?_eq_some_iff.1 hd
        rw [this.2]
      rw [hdr] at hF
      simp only [sonL] at hF
      refine CmpW.T ?_
      refine gos ?_
      refine And.intro (And.intro (by omega) (by omega)) (idx_str (ds := [d0, d1, d2, d3, d4, d5, d6, d7, d8, d9]) (by rw [← hds]; exact hd) ?_)
      refine gos ?_
      by_cases h0 : d = []
      · refine CmpW.f (by simpa using h0) ?_
        refine gos ?_
        rw [if_neg (by simp [h0])] at hF
        exact ⟨f - 1, _, 1, by omega, fgts, i + 1, by omega, by omega, hF, rfl, rfl⟩
      · refine CmpW.t (by simpa using h0) ?_
        refine gos ?_
        refine CallW.pure (HasPrefix_does G _ _) rfl rfl ?_
        cases hp : d.isPrefixOf t with
        | true =>
          rw [if_pos ⟨h0, hp⟩] at hF
          refine gos ?_
          refine RetW.plain (by simp) ?_
          rw [hF]; rfl
        | false =>
          rw [if_neg (by simp [hp])] at hF
          refine gos ?_
          exact ⟨f - 1, _, 1, by omega, fgts, i + 1, by omega, by omega, hF, rfl, rfl⟩
    · refine CmpW.N ?_
      refine gos ?_
      have : i = 10 := by omega
      subst this
      rw [List.drop_of_length_le (by omega)] at hF
      exact ⟨_, 1, fgts, hF, rfl, rfl⟩
  rintro e h ⟨hF, rfl, rfl⟩
  refine AC.go tab ?_
  refine gos ?_
  refine RetW.plain (by simp) ?_
  rw [hF]; rfl
end Go.Proofs.YtijdnjngfkohfaaGreatDoor

namespace Go.Proofs.YtijdnjngfkohfaaGreatDoor
open Go Go.Abs
attribute [local irreducible] DrawW CallW RetW AC Does CmpW
structure Bra where
  texts : List (List UInt8)
  places : List Nat
  from_ : Nat
def strEs (xs : List (List UInt8)) : List (List AV) := xs.map fun t => [.str t]
def natEs (xs : List Nat) : List (List AV) := xs.map fun (n : Nat) => [.int .i64 (n : Int)]
@[simp] theorem strEs_length (xs : List (List UInt8)) : (strEs xs).length = xs.length := by simp [strEs]
@[simp] theorem natEs_length (xs : List Nat) : (natEs xs).length = xs.length := by simp [natEs]
theorem strEs_closed : ∀ xs, closedLL (strEs xs) = true
  | [] => rfl
  | x :: xs => by simp [strEs, closedLL, closedL, closed]; exact strEs_closed xs
theorem strEs1_closed (xs : List (List UInt8)) (t : List UInt8) : closedLL (strEs xs ++ [[.str t]]) = true := by
  have := strEs_closed (xs ++ [t])
  simpa [strEs] using this
theorem natEs_closed : ∀ xs, closedLL (natEs xs) = true
  | [] => rfl
  | x :: xs => by simp [natEs, closedLL, closedL, closed]; exact natEs_closed xs
def plcF (s : List UInt8) (i : Nat) : Option Nat := match s[i + 1]?, s[i + 2]? with
  | some c, some d => if 48 ≤ c.toNat ∧ c.toNat ≤ 57 ∧ d = 125 then some (c.toNat - 48) else none
  | _, _ => none
def braL (s : List UInt8) (n : Int) : Nat → Nat → List Nat → Bra → Except (Int × Nat) Bra
  | 0, _, _, B => .ok B
  | f + 1, i, seen, B => match s[i]? with
    | none => .ok B
    | some c =>
      if c = 125 then .error (1, i)
      else if c = 123 then match plcF s i with
        | none => .error (1, i)
        | some k => if n ≤ (k : Int) ∨ k ∈ seen then .error (3, i)
          else braL s n f (i + 3) (k :: seen) ⟨B.texts ++ [(s.take i).drop B.from_], B.places ++ [k], i + 3⟩
      else braL s n f (i + 1) seen B
def bra0 (s : List UInt8) (n : Int) : Except (Int × Nat) Bra := braL s n (s.length + 1) 0 [] ⟨[], [], 0⟩
def braF (s : List UInt8) (n : Int) : Except (Int × Nat) (List (List UInt8) × List Nat) :=
  if rightF s = false then .error (1, 0) else match bra0 s n with
    | .error r => .error r
    | .ok B => if (B.places.length : Int) < min n 10 then .error (3, s.length) else .ok (B.texts ++ [s.drop B.from_], B.places)
def braV (r : Except (Int × Nat) (List (List UInt8) × List Nat)) : AV := match r with
  | .error e => .tuple [.agg [.nils, .nils], .int .i64 e.1, .int .i64 e.2]
  | .ok (ts, ps) => .tuple [.agg [.fsl (strEs ts), .fsl (natEs ps)], .int .i64 0, .int .i64 0]
def senC (seen : List Nat) : List AV := (List.range 10).map fun k => .bool (decide (k ∈ seen))
theorem senC_get {seen : List Nat} {k : Nat} (hk : k < 10) : (senC seen)[k]? = some (.bool (decide (k ∈ seen))) := by
  unfold senC
  rw [List.getElem?_map, List.getElem?_range hk]; rfl
theorem senC_set {seen : List Nat} {k : Nat} (hk : k < 10) : (senC seen).set k (.bool true) = senC (k :: seen) := by
  apply List.ext_getElem?
  intro j
  by_cases hj : j < 10
  · by_cases e : k = j
    · subst e
      rw [List.getElem?_set_self (by simp [senC]; exact hk), senC_get hk]; simp
    · rw [List.getElem?_set_ne e, senC_get hj, senC_get hj]
      simp [Ne.symm e]
  · rw [List.getElem?_eq_none (by simp [senC]; omega), List.getElem?_eq_none (by simp [senC]; omega)]
theorem drop_at {cs : List AV} {n k : Nat} {a : AV} {K : List AV → Prop} (hn : n = k) (h : cs[k]? = some a) (hk : ∀ r, K (a :: r)) : dropK cs n K := by
  subst hn
  obtain ⟨hlt, ha⟩ := List.getElem?_eq_some_iff.1 h
  refine dropK_of (Nat.le_of_lt hlt) ?_
  rw [List.drop_eq_getElem_cons hlt, ha]
  exact hk _
theorem splice_at {e : List AV} {n k : Nat} {a : AV} {K : List AV → Prop} (hn : n = k) (hk : k < e.length) (h : K (e.set k a)) : spliceK e n [a] K := by
  subst hn
  induction e generalizing n K with
  | nil => simp at hk
  | cons c e ih =>
    cases n with
    | zero =>
      cases e <;> exact h
    | succ n =>
      simp only [spliceK]
      exact ih (by simpa using hk) h
theorem bad_yes {s : List UInt8} {i : Nat} {c d : UInt8} (hc : s[i + 1]? = some c) (hd : s[i + 2]? = some d) (h1 : 48 ≤ c.toNat) (h2 : c.toNat ≤ 57) (h3 : d = 125) : plcF s i = some (c.toNat - 48) := by
  unfold plcF; rw [hc, hd]; simp [h1, h2, h3]
theorem bad_no {s : List UInt8} {i : Nat} {c d : UInt8} (hc : s[i + 1]? = some c) (hd : s[i + 2]? = some d) (h : ¬ (48 ≤ c.toNat ∧ c.toNat ≤ 57 ∧ d = 125)) : plcF s i = none := by
  unfold plcF; rw [hc, hd]; simp only [if_neg h]
theorem BParse_does (m : Int) (s : List UInt8) (n : Int) (hs : s.length < 100000) (hn : -9223372036854775808 ≤ n ∧ n ≤ 9223372036854775807) :
    Does Tryz.prog (GL m) 37 [.str s, .int .i64 n] [] fun ae _ => ae = .ret (braV (braF s n)) := by
  refine Does.bodyA tab Tryz.func37 rfl rfl ?_
  refine AC.step tab ?_
  refine gos ?_
  intro v1
  refine gos ?_
  refine AC.step tab ?_
  refine gos ?_
  refine CallW.pure (Right_does m s (by omega)) rfl rfl ?_
  cases hR : rightF s with
  | false =>
    (repeat (first | refine gof ?_ | refine fun (vv : Nat) => ?_))
    refine RetW.plain (by simp) ?_
    simp only [braF, hR, if_true]
    (first | exact ⟨rfl, rfl⟩ | exact ⟨trivial, rfl⟩ | exact ⟨rfl, trivial⟩ | rfl | trivial | done)
  | true =>
  refine gos ?_
  refine AC.step tab ?_
  refine gos ?_
  intro v2
  refine gos ?_
  refine AC.step tab ?_
  refine gos ?_
  intro v3
  refine gos ?_
  refine AC.step tab ?_
  refine gos ?_
  refine AC.ownC 1 0 9 1 rfl rfl rfl (by omega) fun v4 => ?_
  refine AC.ownC 1 1 3 1 rfl rfl rfl (by omega) fun v5 => ?_
  refine AC.cutF tab (fun e h => ∃ (B : Bra) (va vb : Nat) (o2 : Option AObj), bra0 s n = .ok B ∧ B.from_ ≤ s.length ∧ B.texts.length ≤ s.length ∧
    e = [.str s, .int .i64 n, .any, .any, .ptr 0 v1 0 0, .int .i64 0, .int .i64 0, .ptr 1 v2 0 0, .any, .int .i64 B.from_] ++ List.replicate 105 .any ∧
    h = [some ⟨v1, 97, 2, [[.nils, .nils]]⟩, some ⟨v2, 97, 2, [[.sl 3 va, .sl 4 vb]]⟩, o2, some ⟨va, 9, 1, strEs B.texts⟩, some ⟨vb, 3, 1, natEs B.places⟩]) ?_ ?_
  · refine gos ?_
    refine AC.loopC tab (fun f e h => ∃ (i : Nat) (B : Bra) (seen : List Nat) (va vb : Nat) (tE pE : List (List AV)), s.length < f + i ∧ i ≤ s.length ∧ B.from_ ≤ i ∧ B.texts.length ≤ i ∧ B.places.length ≤ i ∧ bra0 s n = braL s n f i seen B ∧ tE = strEs B.texts ∧ pE = natEs B.places ∧
      e = [.str s, .int .i64 n, .any, .any, .ptr 0 v1 0 0, .int .i64 0, .int .i64 0, .ptr 1 v2 0 0, .ptr 2 v3 0 0, .int .i64 B.from_, .int .i64 i] ++ List.replicate 104 .any ∧
      h = [some ⟨v1, 97, 2, [[.nils, .nils]]⟩, some ⟨v2, 97, 2, [[.sl 3 va, .sl 4 vb]]⟩, some ⟨v3, 228, 10, [senC seen]⟩, some ⟨va, 9, 1, tE⟩, some ⟨vb, 3, 1, pE⟩])
      (s.length + 1) ⟨_, fgts, 0, ⟨[], [], 0⟩, [], v4, v5, [], [], by omega, by omega, by simp, by simp, by simp, rfl, rfl, rfl, rfl, rfl⟩ ?_
    rintro f e h ⟨i, B, seen, va, vb, tE, pE, hf, hi, hfr, htl, hpl, hal, rfl, rfl, rfl, rfl⟩
    obtain ⟨f, rfl⟩ : ∃ q, f = q + 1 := ⟨f - 1, by omega⟩
    have hres : ∀ r, braL s n (f + 1) i seen B = .error r → braF s n = .error r := fun r h => by simp only [braF, hR, hal, h]; simp
    refine gos ?_
    by_cases hlt : i < s.length
    · obtain ⟨c, hc⟩ : ∃ c, s[i]? = some c := ⟨_, List.getElem?_eq_getElem hlt⟩
      simp only [braL, hc] at hal hres
      refine CmpW.T ?_
      refine gos ?_
      refine And.intro (by omega) ⟨c, hc, ?_⟩
      refine gos ?_
      by_cases h125 : c = 125
      · subst h125
        refine CmpW.t (by simp) ?_
        refine gos ?_
        refine RetW.plain (by simp) ?_
        rw [hres _ (if_pos rfl)]; rfl
      rw [if_neg h125] at hal hres
      refine CmpW.f (by simp; exact fun h => h125 (u8_of h rfl)) ?_
      refine gos ?_
      by_cases h123 : c = 123
      · subst h123
        rw [if_pos rfl] at hal hres
        refine CmpW.t (by simp) ?_
        refine gos ?_
        by_cases h2 : i + 2 < s.length
        · obtain ⟨c1, hc1⟩ : ∃ c, s[i + 1]? = some c := ⟨_, List.getElem?_eq_getElem (by omega)⟩
          obtain ⟨c2, hc2⟩ : ∃ c, s[i + 2]? = some c := ⟨_, List.getElem?_eq_getElem (by omega)⟩
          refine CmpW.N ?_
          refine gos ?_
          refine And.intro (by omega) ⟨c1, hc1, ?_⟩
          refine gos ?_
          by_cases g1 : c1.toNat < 48
          · have hp := bad_no hc1 hc2 (by omega)
            refine CmpW.T ?_
            refine gos ?_
            refine RetW.plain (by simp) ?_
            rw [hres _ (by rw [hp])]; rfl
          refine CmpW.N ?_
          refine gos ?_
          refine And.intro (by omega) ⟨c1, hc1, ?_⟩
          refine gos ?_
          by_cases g2 : 57 < c1.toNat
          · have hp := bad_no hc1 hc2 (by omega)
            refine CmpW.T ?_
            refine gos ?_
            refine RetW.plain (by simp) ?_
            rw [hres _ (by rw [hp])]; rfl
          refine CmpW.N ?_
          refine gos ?_
          refine And.intro (by omega) ⟨c2, hc2, ?_⟩
          refine gos ?_
          by_cases g3 : c2 = 125
          case neg =>
            have hp := bad_no hc1 hc2 (fun h => g3 h.2.2)
            refine CmpW.t (by simp; exact fun h => g3 (u8_of h rfl)) ?_
            refine gos ?_
            refine RetW.plain (by simp) ?_
            rw [hres _ (by rw [hp])]; rfl
          have hp := bad_yes hc1 hc2 (by omega) (by omega) g3
          subst g3
          refine CmpW.f (by simp) ?_
          refine gos ?_
          refine And.intro (by omega) ⟨c1, hc1, ?_⟩
          refine gos ?_
          obtain ⟨k, hk⟩ : ∃ k, k = c1.toNat - 48 := ⟨_, rfl⟩
          have hk10 : k < 10 := by omega
          rw [← hk] at hp
          rw [hp] at hal hres
          simp only at hal hres
          have hkk : IntKind.i64.wrap (IntKind.u8.wrap ((c1.toNat : Int) - 48)) = (k : Int) := by
            rw [wrap_u8 (by omega) (by omega), wrap_i64 (by omega) (by omega)]; omega
          rw [hkk]
          by_cases g4 : n ≤ (k : Int)
          · refine CmpW.T ?_
            refine gos ?_
            refine RetW.plain (by simp) ?_
            rw [hres _ (if_pos (.inl g4))]; rfl
          refine CmpW.N ?_
          refine gos ?_
          refine And.intro (And.intro (by omega) (by omega)) ?_
          refine gos ?_
          refine drop_at (k := k) (by show 0 + (k : Int).toNat * 1 = k; simp) (senC_get hk10) (fun r => ?_)
          refine gos ?_
          by_cases g5 : k ∈ seen
          · rw [decide_eq_true g5]
            refine gos ?_
            refine RetW.plain (by simp) ?_
            rw [hres _ (if_pos (.inr g5))]; rfl
          rw [decide_eq_false g5]
          rw [if_neg (by rintro (h | h); exact g4 h; exact g5 h)] at hal
          clear hres hkk hk hp hc1 hc2
          refine gos ?_
          refine And.intro (And.intro (by omega) (by omega)) ?_
          refine gos ?_
          refine splice_at (k := k) (by show 0 + (k : Int).toNat * 1 = k; simp) (by simp [senC]; exact hk10) ?_
          rw [senC_set hk10]
          refine gos ?_
          refine DrawW.P (.take 0 (.take 2 (.take 3 (.take 4 (.take 5 (.take 8 (.take 10 (.fork (.cons 1 (.fork (.cons 6 (.fork (.cons 7 (.fork (.cons 9 (.take 13 (.take 11 (.take 12 (.take 14 (.take 15 (.take 16 .done)))))) (.cons 11 (.take 9 (.take 13 (.take 12 (.take 14 (.take 15 (.take 16 .done)))))) .nil))) (.cons 9 (.fork (.cons 7 (.take 13 (.take 11 (.take 12 (.take 14 (.take 15 (.take 16 .done)))))) (.cons 11 (.take 7 (.take 13 (.take 12 (.take 14 (.take 15 (.take 16 .done)))))) .nil))) (.cons 11 (.fork (.cons 7 (.take 9 (.take 13 (.take 12 (.take 14 (.take 15 (.take 16 .done)))))) (.cons 9 (.take 7 (.take 13 (.take 12 (.take 14 (.take 15 (.take 16 .done)))))) .nil))) .nil)))) (.cons 9 (.fork (.cons 6 (.fork (.cons 7 (.take 13 (.take 11 (.take 12 (.take 14 (.take 15 (.take 16 .done)))))) (.cons 11 (.take 7 (.take 13 (.take 12 (.take 14 (.take 15 (.take 16 .done)))))) .nil))) (.cons 11 (.take 6 (.take 7 (.take 13 (.take 12 (.take 14 (.take 15 (.take 16 .done))))))) .nil))) (.cons 11 (.fork (.cons 6 (.fork (.cons 7 (.take 9 (.take 13 (.take 12 (.take 14 (.take 15 (.take 16 .done)))))) (.cons 9 (.take 7 (.take 13 (.take 12 (.take 14 (.take 15 (.take 16 .done)))))) .nil))) (.cons 9 (.take 6 (.take 7 (.take 13 (.take 12 (.take 14 (.take 15 (.take 16 .done))))))) .nil))) .nil)))) (.cons 6 (.fork (.cons 1 (.fork (.cons 7 (.fork (.cons 9 (.take 13 (.take 11 (.take 12 (.take 14 (.take 15 (.take 16 .done)))))) (.cons 11 (.take 9 (.take 13 (.take 12 (.take 14 (.take 15 (.take 16 .done)))))) .nil))) (.cons 9 (.fork (.cons 7 (.take 13 (.take 11 (.take 12 (.take 14 (.take 15 (.take 16 .done)))))) (.cons 11 (.take 7 (.take 13 (.take 12 (.take 14 (.take 15 (.take 16 .done)))))) .nil))) (.cons 11 (.fork (.cons 7 (.take 9 (.take 13 (.take 12 (.take 14 (.take 15 (.take 16 .done)))))) (.cons 9 (.take 7 (.take 13 (.take 12 (.take 14 (.take 15 (.take 16 .done)))))) .nil))) .nil)))) (.cons 9 (.fork (.cons 1 (.fork (.cons 7 (.take 13 (.take 11 (.take 12 (.take 14 (.take 15 (.take 16 .done)))))) (.cons 11 (.take 7 (.take 13 (.take 12 (.take 14 (.take 15 (.take 16 .done)))))) .nil))) (.cons 11 (.take 1 (.take 7 (.take 13 (.take 12 (.take 14 (.take 15 (.take 16 .done))))))) .nil))) (.cons 11 (.take 1 (.fork (.cons 7 (.take 9 (.take 13 (.take 12 (.take 14 (.take 15 (.take 16 .done)))))) (.cons 9 (.take 7 (.take 13 (.take 12 (.take 14 (.take 15 (.take 16 .done)))))) .nil)))) .nil)))) (.cons 9 (.fork (.cons 1 (.fork (.cons 6 (.fork (.cons 7 (.take 13 (.take 11 (.take 12 (.take 14 (.take 15 (.take 16 .done)))))) (.cons 11 (.take 7 (.take 13 (.take 12 (.take 14 (.take 15 (.take 16 .done)))))) .nil))) (.cons 11 (.take 6 (.take 7 (.take 13 (.take 12 (.take 14 (.take 15 (.take 16 .done))))))) .nil))) (.cons 6 (.fork (.cons 1 (.fork (.cons 7 (.take 13 (.take 11 (.take 12 (.take 14 (.take 15 (.take 16 .done)))))) (.cons 11 (.take 7 (.take 13 (.take 12 (.take 14 (.take 15 (.take 16 .done)))))) .nil))) (.cons 11 (.take 1 (.take 7 (.take 13 (.take 12 (.take 14 (.take 15 (.take 16 .done))))))) .nil))) (.cons 11 (.fork (.cons 1 (.take 6 (.take 7 (.take 13 (.take 12 (.take 14 (.take 15 (.take 16 .done))))))) (.cons 6 (.take 1 (.take 7 (.take 13 (.take 12 (.take 14 (.take 15 (.take 16 .done))))))) .nil))) .nil)))) (.cons 11 (.fork (.cons 1 (.fork (.cons 6 (.fork (.cons 7 (.take 9 (.take 13 (.take 12 (.take 14 (.take 15 (.take 16 .done)))))) (.cons 9 (.take 7 (.take 13 (.take 12 (.take 14 (.take 15 (.take 16 .done)))))) .nil))) (.cons 9 (.take 6 (.take 7 (.take 13 (.take 12 (.take 14 (.take 15 (.take 16 .done))))))) .nil))) (.cons 6 (.take 1 (.fork (.cons 7 (.take 9 (.take 13 (.take 12 (.take 14 (.take 15 (.take 16 .done)))))) (.cons 9 (.take 7 (.take 13 (.take 12 (.take 14 (.take 15 (.take 16 .done)))))) .nil)))) (.cons 9 (.fork (.cons 1 (.take 6 (.take 7 (.take 13 (.take 12 (.take 14 (.take 15 (.take 16 .done))))))) (.cons 6 (.take 1 (.take 7 (.take 13 (.take 12 (.take 14 (.take 15 (.take 16 .done))))))) .nil))) .nil)))) .nil)))))))))))) ?_
          (repeat' (first | exact trivial | refine gon ?_ | refine And.intro (And.intro (by omega) (And.intro (by omega) (by omega))) ?_ | refine fun (vv : Nat) => ?_ | (refine And.intro (And.intro (fun y hy => by rcases List.mem_singleton.1 hy with rfl; rfl) (fun y hy => by rcases List.mem_singleton.1 hy with rfl; rfl)) ?_; refine And.intro (And.intro rfl trivial) ?_) | refine gobnd ?_ | refine And.intro ?_ ?_))
          all_goals
            exact ⟨f, _, 5, by omega, fgts, i + 3, ⟨B.texts ++ [(s.take i).drop B.from_], B.places ++ [k], i + 3⟩, k :: seen, _, _, _, _, by omega, by omega, by simp, by simp; omega, by simp; omega, hal, by simp [strEs], by simp [natEs], rfl, rfl⟩
        · have hp : plcF s i = none := by unfold plcF; rw [List.getElem?_eq_none (show s.length ≤ i + 2 by omega)]; split <;> first | rfl | (rename_i h; cases h)
          rw [hp] at hres
          refine CmpW.T ?_
          refine gos ?_
          refine RetW.plain (by simp) ?_
          rw [hres _ rfl]; rfl
      · rw [if_neg h123] at hal
        refine CmpW.f (by simp; exact fun h => h123 (u8_of h rfl)) ?_
        refine gos ?_
        exact ⟨f, _, 5, by omega, fgts, i + 1, B, seen, va, vb, _, _, by omega, by omega, by omega, by omega, by omega, hal, rfl, rfl, rfl, rfl⟩
    · simp only [braL, List.getElem?_eq_none (show s.length ≤ i by omega)] at hal
      refine CmpW.N ?_
      refine gos ?_
      exact ⟨_, 5, fgts, B, va, vb, _, hal, by omega, by omega, rfl, rfl⟩
  rintro e h ⟨B, va, vb, o2, hB, hfr, htl, rfl, rfl⟩
  have hF : braF s n = if (B.places.length : Int) < min n 10 then .error (3, s.length) else .ok (B.texts ++ [s.drop B.from_], B.places) := by simp only [braF, hR, hB]; simp
  have hmin : (if (10 : Int) < n then (10 : Int) else n) = min n 10 := by omega
  refine AC.step tab ?_
  refine gos ?_
  rw [hmin]
  by_cases hlt : (B.places.length : Int) < min n 10
  · refine CmpW.t (by simpa using hlt) ?_
    refine gos ?_
    refine RetW.plain (by simp) ?_
    rw [hF, if_pos hlt]; rfl
  refine CmpW.f (by simpa using hlt) ?_
  refine gos ?_
  rw [if_neg hlt] at hF
  refine AC.go tab ?_
  refine gos ?_
  refine DrawW.P (.take 0 (.take 2 (.take 3 (.take 4 (.fork (.cons 1 (.take 5 (.take 6 (.take 7 (.take 8 .done)))) (.cons 5 (.take 1 (.take 6 (.take 7 (.take 8 .done)))) .nil))))))) ?_
  (repeat' (first | exact trivial | refine gon ?_ | refine And.intro (And.intro (by omega) (by omega)) ?_ | refine fun (vv : Nat) => ?_ | (refine And.intro (And.intro (fun y hy => by rcases List.mem_singleton.1 hy with rfl; rfl) (fun y hy => by rcases List.mem_singleton.1 hy with rfl; rfl)) ?_; refine And.intro (And.intro rfl trivial) ?_) | refine gobnd ?_ | refine And.intro ?_ ?_))
  all_goals
    refine RetW.wk (r' := .tuple [.agg [.fsl (strEs B.texts ++ [[.str (s.drop B.from_)]]), .fsl (natEs B.places)], .int .i64 0, .int .i64 0]) (by simp) ?_ (Wk.tuple (Wk.agg (cs := [.sl 3 vv, .sl 4 vb]) (cs' := [.fsl (strEs B.texts ++ [[.str (s.drop B.from_)]]), .fsl (natEs B.places)]) rfl
      (Wk.trans (Wk.row (k := 0) (i := 3) (o := ⟨vv, 9, 1, strEs B.texts ++ [[.str (s.drop B.from_)]]⟩) rfl rfl rfl (strEs1_closed _ _)) (Wk.row (k := 1) (i := 4) (o := ⟨vb, 3, 1, natEs B.places⟩) rfl rfl rfl (natEs_closed _))))) ?_
    · rfl
    · rw [hF]
      simp [braV, strEs]
end Go.Proofs.YtijdnjngfkohfaaGreatDoor

namespace Go.Proofs.YtijdnjngfkohfaaGreatDoor
open Go Go.Abs
attribute [local irreducible] DrawW CallW RetW AC Does CmpW
variable {G : Globs}
def cro (ver : Nat) (s : List UInt8) (a : Nat) (bad : Int) : AObj := ⟨ver, 301, 3, [[.str s, .int .i64 a, .int .i64 bad]]⟩
def bd (a : Nat) (bad : Int) : Int := if bad < 0 then a else bad
theorem cfail_does (s : List UInt8) (a : Nat) (bad : Int) (ver : Nat) : Does Tryz.prog G 228 [.ptr 0 ver 0 0] [some (cro ver s a bad)] fun ae O => ae = .ret (.tuple []) ∧ O = [some (cro ver s a (bd a bad))] := by
  refine Does.body tab Tryz.func228 rfl rfl ?_
  refine gos ?_
  by_cases h : bad < 0
  · refine CmpW.T ?_
    refine gos ?_
    refine RetW.plain (by simp) ?_
    simp only [bd, if_pos h]
    (first | exact ⟨rfl, rfl⟩ | exact ⟨trivial, rfl⟩ | exact ⟨rfl, trivial⟩ | rfl | trivial | done)
  · refine CmpW.N ?_
    refine gos ?_
    refine RetW.plain (by simp) ?_
    simp only [bd, if_neg h]
    (first | exact ⟨rfl, rfl⟩ | exact ⟨trivial, rfl⟩ | exact ⟨rfl, trivial⟩ | rfl | trivial | done)
theorem cpeek_does (s : List UInt8) (a : Nat) (bad : Int) (ha : a ≤ s.length) (hs : s.length < 100000) (ver : Nat) :
    Does Tryz.prog G 230 [.ptr 0 ver 0 0] [some (cro ver s a bad)] fun ae O => ae = .ret (.int .u8 (pk s a)) ∧ O = [some (cro ver s (bl s a) bad)] := by
  refine Does.bodyA tab Tryz.func230 rfl rfl ?_
  refine AC.step tab ?_
  refine gos ?_
  refine AC.cutF tab (fun e h => e = [.ptr 0 ver 0 0] ++ List.replicate 50 .any ∧ h = [some (cro ver s (bl s a) bad)]) ?_ ?_
  · refine AC.loopC tab (fun f e h => ∃ k, s.length < f + (a + k) ∧ a + k ≤ s.length ∧ k ≤ tw s (fun c => c == 32) a ∧ e = [.ptr 0 ver 0 0] ++ List.replicate 50 .any ∧ h = [some (cro ver s (a + k) bad)]) (s.length + 1) ⟨_, fgts, 0, by omega, by omega, by omega, rfl, rfl⟩ ?_
    rintro f e h ⟨k, hf, hk, hkt, rfl, rfl⟩
    refine gos ?_
    refine DrawW.L ?_
    refine gos ?_
    by_cases hlt : a + k < s.length
    · obtain ⟨c, hc⟩ : ∃ c, s[a + k]? = some c := ⟨_, List.getElem?_eq_getElem hlt⟩
      refine CmpW.t (by simp; omega) ?_
      refine gos ?_
      refine And.intro (by omega) ⟨c, hc, ?_⟩
      refine gos ?_
      by_cases h32 : c = 32
      · subst h32
        refine CmpW.t (by simp) ?_
        refine gos ?_
        refine ⟨f - 1, _, 1, by omega, fgts, k + 1, by omega, by omega, tw_go hkt hc rfl, rfl, rfl⟩
      · refine CmpW.f (by simp; exact fun h => h32 (u8_of h rfl)) ?_
        refine gos ?_
        have : bl s a = a + k := by unfold bl; rw [← tw_stop hkt fun d hd => by rw [hc] at hd; cases hd; simpa using h32]
        rw [this]
        exact ⟨_, 1, fgts, rfl, rfl⟩
    · refine CmpW.f (by simp; omega) ?_
      refine gos ?_
      have : bl s a = a + k := by unfold bl; rw [← tw_stop hkt fun d hd => by rw [List.getElem?_eq_none (by omega)] at hd; cases hd]
      rw [this]
      exact ⟨_, 1, fgts, rfl, rfl⟩
  rintro e h ⟨rfl, rfl⟩
  refine AC.go tab ?_
  refine gos ?_
  refine DrawW.L ?_
  refine gos ?_
  have hb := bl_le ha
  by_cases hlt : bl s a < s.length
  · obtain ⟨c, hc⟩ : ∃ c, s[bl s a]? = some c := ⟨_, List.getElem?_eq_getElem hlt⟩
    refine CmpW.f (by simp; omega) ?_
    refine gos ?_
    refine DrawW.L ?_
    refine gos ?_
    refine And.intro (by omega) ⟨c, hc, ?_⟩
    refine gos ?_
    refine RetW.plain (by simp) ?_
    simp only [pk, hc]
    (first | exact ⟨rfl, rfl⟩ | exact ⟨trivial, rfl⟩ | exact ⟨rfl, trivial⟩ | rfl | trivial | done)
  · refine CmpW.t (by simp; omega) ?_
    refine gos ?_
    refine RetW.plain (by simp) ?_
    simp only [pk, List.getElem?_eq_none (show s.length ≤ bl s a by omega)]
    (first | exact ⟨rfl, rfl⟩ | exact ⟨trivial, rfl⟩ | exact ⟨rfl, trivial⟩ | rfl | trivial | done)
def nx (s : List UInt8) (a : Nat) (b : UInt8) : Bool := decide (s[bl s a]? = some b)
def nxE (s : List UInt8) (a : Nat) (b : UInt8) : Nat := if nx s a b then bl s a + 1 else bl s a
theorem nxE_le {s : List UInt8} {a : Nat} (b : UInt8) (ha : a ≤ s.length) : a ≤ nxE s a b ∧ nxE s a b ≤ s.length := by
  have hb := bl_le ha
  unfold nxE nx
  split
  · rename_i h
    have := (List.getElem?_eq_some_iff.1 (of_decide_eq_true h)).1
    omega
  · omega
theorem pk_nx {s : List UInt8} {a : Nat} {b : UInt8} (hb : b ≠ 0) : (pk s a = b.toNat) ↔ nx s a b = true := by
  unfold pk nx
  cases h : s[bl s a]? with
  | none =>
    simp only [decide_eq_true_eq, reduceCtorEq, iff_false]
    intro e
    exact hb (UInt8.toNat_inj.1 (by simpa using e.symm))
  | some c =>
    simp only [decide_eq_true_eq, Option.some.injEq]
    exact UInt8.toNat_inj
theorem ctake_does (s : List UInt8) (a : Nat) (bad : Int) (b : UInt8) (hb0 : b ≠ 0) (ha : a ≤ s.length) (hs : s.length < 100000) (ver : Nat) :
    Does Tryz.prog G 227 [.ptr 0 ver 0 0, .int .u8 b.toNat] [some (cro ver s a bad)] fun ae O => ae = .ret (.bool (nx s a b)) ∧ O = [some (cro ver s (nxE s a b) bad)] := by
  refine Does.body tab Tryz.func227 rfl rfl ?_
  refine gos ?_
  have hb := bl_le ha
  have hp := pk_nx (s := s) (a := a) hb0
  refine DrawW.P (.take 0 (.take 2 (.take 1 (.take 3 (.take 4 (.take 5 (.take 6 (.take 7 (.take 8 (.take 9 (.take 10 (.take 11 (.take 12 (.take 13 (.take 14 (.take 15 .done)))))))))))))))) ?_
  refine gos ?_
  refine CallW.meth 0 (cpeek_does s a bad ha hs ver) rfl rfl rfl rfl rfl rfl ?_
  refine gos ?_
  cases hn : nx s a b with
  | false =>
    have h1 : ¬ pk s a = b.toNat := fun h => by rw [hp.1 h] at hn; cases hn
    refine CmpW.t (by simp; omega) ?_
    refine gos ?_
    refine RetW.plain (by simp) ?_
    simp only [nxE, hn, Bool.false_eq_true, if_false]
    (first | exact ⟨rfl, rfl⟩ | exact ⟨trivial, rfl⟩ | exact ⟨rfl, trivial⟩ | rfl | trivial | done)
  | true =>
    have h1 : pk s a = b.toNat := hp.2 hn
    have hlt : bl s a < s.length := (List.getElem?_eq_some_iff.1 (of_decide_eq_true hn)).1
    refine CmpW.f (by simp; omega) ?_
    refine gos ?_
    refine CmpW.f (by simp; omega) ?_
    refine gos ?_
    refine RetW.plain (by simp) ?_
    simp only [nxE, hn, if_true]
    (first | exact ⟨rfl, rfl⟩ | exact ⟨trivial, rfl⟩ | exact ⟨rfl, trivial⟩ | rfl | trivial | done)
end Go.Proofs.YtijdnjngfkohfaaGreatDoor

namespace Go.Proofs.YtijdnjngfkohfaaGreatDoor
open Go Go.Abs
attribute [local irreducible] DrawW CallW RetW AC Does CmpW
def catW : Nat → List UInt8
  | 0 => [122, 101, 114, 111]
  | 1 => [111, 110, 101]
  | 2 => [116, 119, 111]
  | 3 => [102, 101, 119]
  | 4 => [109, 97, 110, 121]
  | _ => [111, 116, 104, 101, 114]
theorem CatString_does (G : Globs) (c : Nat) (hc : c < 6) : Does Tryz.prog G 250 [.int .i64 c] [] fun ae _ => ae = .ret (.str (catW c)) := by
  have h : c = 0 ∨ c = 1 ∨ c = 2 ∨ c = 3 ∨ c = 4 ∨ c = 5 := by omega
  rcases h with rfl | rfl | rfl | rfl | rfl | rfl
  all_goals
    refine Does.body tab Tryz.func250 rfl rfl ?_
    (repeat (first | refine gof ?_ | refine fun (vv : Nat) => ?_))
    refine RetW.plain (by simp) ?_
    rfl
def catOf (w : List UInt8) : Option Nat := if catW 0 = w then some 0 else if catW 1 = w then some 1 else if catW 2 = w then some 2 else if catW 3 = w then some 3 else if catW 4 = w then some 4 else if catW 5 = w then some 5 else none
theorem catOf_lt {w : List UInt8} {c : Nat} (h : catOf w = some c) : c < 6 ∧ w = catW c := by
  unfold catOf at h
  repeat (split at h; · rename_i e; simp only [Option.some.injEq] at h; subst h; exact ⟨by omega, e.symm⟩)
  cases h
theorem CatOf_does (G : Globs) (w : List UInt8) : Does Tryz.prog G 217 [.str w] [] fun ae _ => ae = .ret (match catOf w with | some c => .tuple [.int .i64 c, .bool true] | none => .tuple [.int .i64 0, .bool false]) := by
  refine Does.body tab Tryz.func217 rfl rfl ?_
  refine gos ?_
  refine AC.rounds tab 7 ?_
  refine gos ?_
  refine CallW.pure (CatString_does G 0 (by omega)) rfl rfl ?_
  refine gos ?_
  by_cases h0 : catW 0 = w
  · refine CmpW.t (by simpa using h0) ?_
    refine gos ?_
    refine RetW.plain (by simp) ?_
    simp only [catOf, if_pos h0]; rfl
  refine CmpW.f (by simpa using h0) ?_
  refine gos ?_
  refine CallW.pure (CatString_does G 1 (by omega)) rfl rfl ?_
  refine gos ?_
  by_cases h1 : catW 1 = w
  · refine CmpW.t (by simpa using h1) ?_
    refine gos ?_
    refine RetW.plain (by simp) ?_
    simp only [catOf, if_neg h0, if_pos h1]; rfl
  refine CmpW.f (by simpa using h1) ?_
  refine gos ?_
  refine CallW.pure (CatString_does G 2 (by omega)) rfl rfl ?_
  refine gos ?_
  by_cases h2 : catW 2 = w
  · refine CmpW.t (by simpa using h2) ?_
    refine gos ?_
    refine RetW.plain (by simp) ?_
    simp only [catOf, if_neg h0, if_neg h1, if_pos h2]; rfl
  refine CmpW.f (by simpa using h2) ?_
  refine gos ?_
  refine CallW.pure (CatString_does G 3 (by omega)) rfl rfl ?_
  refine gos ?_
  by_cases h3 : catW 3 = w
  · refine CmpW.t (by simpa using h3) ?_
    refine gos ?_
    refine RetW.plain (by simp) ?_
    simp only [catOf, if_neg h0, if_neg h1, if_neg h2, if_pos h3]; rfl
  refine CmpW.f (by simpa using h3) ?_
  refine gos ?_
  refine CallW.pure (CatString_does G 4 (by omega)) rfl rfl ?_
  refine gos ?_
  by_cases h4 : catW 4 = w
  · refine CmpW.t (by simpa using h4) ?_
    refine gos ?_
    refine RetW.plain (by simp) ?_
    simp only [catOf, if_neg h0, if_neg h1, if_neg h2, if_neg h3, if_pos h4]; rfl
  refine CmpW.f (by simpa using h4) ?_
  refine gos ?_
  refine CallW.pure (CatString_does G 5 (by omega)) rfl rfl ?_
  refine gos ?_
  by_cases h5 : catW 5 = w
  · refine CmpW.t (by simpa using h5) ?_
    refine gos ?_
    refine RetW.plain (by simp) ?_
    simp only [catOf, if_neg h0, if_neg h1, if_neg h2, if_neg h3, if_neg h4, if_pos h5]; rfl
  refine CmpW.f (by simpa using h5) ?_
  refine gos ?_
  refine RetW.plain (by simp) ?_
  simp only [catOf, if_neg h0, if_neg h1, if_neg h2, if_neg h3, if_neg h4, if_neg h5]
theorem Cut_does (m : Int) (s t : List UInt8) (hs : s.length < 1000000) : Does Tryz.prog (GL m) 252 [.str s, .str t] [] fun ae _ => ae = .ret (.tuple [.str (Lib.cut s t).1, .str (Lib.cut s t).2.1, .bool (Lib.cut s t).2.2]) :=
  Does.of_calls (v := .tuple #[.string ⟨⟨(Lib.cut s t).1⟩⟩, .string ⟨⟨(Lib.cut s t).2.1⟩⟩, .bool (Lib.cut s t).2.2]) Tryz.func252 rfl rfl (fun C => by simp [RepF, RepFL]) fun C cargs hg hr => by
    rw [rep_str2 hr]
    refine (Tryz.strings_Cut ⟨⟨s⟩⟩ ⟨⟨t⟩⟩ m C.w (by simp [str_size]; omega) (glob_int hg (by simp [GL]))).mono ?_
    rintro e w' ⟨rfl, n, rfl⟩
    exact ⟨rfl, ⟨rfl, rfl, rfl, Nat.le_refl _, fun _ _ => rfl⟩⟩
theorem TrimRight_does (G : Globs) (s : List UInt8) (c : UInt8) (hc : c.toNat < 128) (hs : s.length < 1000000) : Does Tryz.prog G 253 [.str s, .str [c]] [] fun ae _ => ae = .ret (.str (Lib.trimRightB s c)) :=
  Does.of_calls (v := .string ⟨⟨Lib.trimRightB s c⟩⟩) Tryz.func253 rfl rfl (fun C => by simp [RepF]) fun C cargs hg hr => by
    rw [rep_str2 hr]
    refine (Tryz.strings_TrimRight_one ⟨⟨s⟩⟩ c hc C.w (by simp [str_size]; omega)).mono ?_
    rintro e w' ⟨rfl, rfl⟩
    exact ⟨rfl, below_same _⟩
theorem cut_le (s t : List UInt8) : (Lib.cut s t).1.length ≤ s.length := by
  unfold Lib.cut
  split
  · simp; omega
  · simp
def smpF (s : List UInt8) (a : Nat) : List UInt8 × Nat :=
  if pk s a = 64 then (Lib.trimRightB (Lib.cut (s.drop (bl s a)) [59]).1 32, bl s a + (Lib.cut (s.drop (bl s a)) [59]).1.length) else ([], bl s a)
theorem smpF_le {s : List UInt8} {a : Nat} (ha : a ≤ s.length) : a ≤ (smpF s a).2 ∧ (smpF s a).2 ≤ s.length := by
  have hb := bl_le ha
  have := cut_le (s.drop (bl s a)) [59]
  rw [List.length_drop] at this
  unfold smpF
  split <;> simp <;> omega
theorem sample_does (m : Int) (s : List UInt8) (a n : Nat) (F : Fnd) (ha : a ≤ s.length) (hs : s.length < 100000) (ver : Nat) :
    Does Tryz.prog (GL m) 221 [.ptr 0 ver 0 0] [some (rro ver s a n F)] fun ae O => ae = .ret (.str (smpF s a).1) ∧ O = [some (rro ver s (smpF s a).2 n F)] := by
  refine Does.body tab Tryz.func221 rfl rfl ?_
  refine gos ?_
  refine CallW.meth 0 (peek_does s a n F ha hs ver) rfl rfl rfl rfl rfl rfl ?_
  have hb := bl_le ha
  refine gos ?_
  by_cases hp : pk s a = 64
  · refine CmpW.f (by simp; omega) ?_
    refine gos ?_
    refine DrawW.L ?_
    refine gos ?_
    refine And.intro (And.intro (by omega) (by omega)) ?_
    refine CallW.pure (Cut_does m (s.drop (bl s a)) [59] (by simp; omega)) rfl rfl ?_
    have := cut_le (s.drop (bl s a)) [59]
    rw [List.length_drop] at this
    refine gos ?_
    refine CallW.pure (TrimRight_does _ _ 32 (by decide) (by omega)) rfl rfl ?_
    refine gos ?_
    refine RetW.plain (by simp) ?_
    simp only [smpF, if_pos hp]
    (first | exact ⟨rfl, rfl⟩ | exact ⟨trivial, rfl⟩ | exact ⟨rfl, trivial⟩ | rfl | trivial | done)
  · refine CmpW.t (by simp; omega) ?_
    refine gos ?_
    refine RetW.plain (by simp) ?_
    simp only [smpF, if_neg hp]
    (first | exact ⟨rfl, rfl⟩ | exact ⟨trivial, rfl⟩ | exact ⟨rfl, trivial⟩ | rfl | trivial | done)
end Go.Proofs.YtijdnjngfkohfaaGreatDoor
