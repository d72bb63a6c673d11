/- The reader of patterns: quotes, literals, affixes. -/
import Derived.Test.YtpipbjfcbbdicaaGreatDoorJ01
import Derived.Test.YtpipbjfcbbdicaaGreatDoorJ06
import Derived.Lib.QuoteLoop
set_option linter.unusedVariables false
set_option linter.unusedSimpArgs false
set_option maxRecDepth 100000
set_option maxHeartbeats 4000000

namespace Go.Proofs.YtpipbjfcbbdicaaGreatDoor
open Go Go.Abs
attribute [local irreducible] DrawW CallW RetW AC Does CmpW

structure Bra where
  texts : List (List UInt8)
  places : List Nat
  from_ : Nat
def strEs (xs : List (List UInt8)) : List (List AV) := xs.map fun t => [.str t]
def natEs (xs : List Nat) : List (List AV) := xs.map fun (n : Nat) => [.int .i64 (n : Int)]
@[simp] theorem strEs_length (xs : List (List UInt8)) : (strEs xs).length = xs.length := by simp [strEs]
@[simp] theorem natEs_length (xs : List Nat) : (natEs xs).length = xs.length := by simp [natEs]
theorem strEs_closed : ∀ xs, closedLL (strEs xs) = true
  | [] => rfl
  | x :: xs => by simp [strEs, closedLL, closedL, closed]; exact strEs_closed xs
theorem strEs1_closed (xs : List (List UInt8)) (t : List UInt8) : closedLL (strEs xs ++ [[.str t]]) = true := by
  have := strEs_closed (xs ++ [t])
  simpa [strEs] using this
theorem natEs_closed : ∀ xs, closedLL (natEs xs) = true
  | [] => rfl
  | x :: xs => by simp [natEs, closedLL, closedL, closed]; exact natEs_closed xs
/-- A place, if one is next: its digit. -/
def plcF (s : List UInt8) (i : Nat) : Option Nat := match s[i + 1]?, s[i + 2]? with
  | some c, some d => if 48 ≤ c.toNat ∧ c.toNat ≤ 57 ∧ d = 125 then some (c.toNat - 48) else none
  | _, _ => none
def braL (s : List UInt8) (n : Int) : Nat → Nat → List Nat → Bra → Except (Int × Nat) Bra
  | 0, _, _, B => .ok B
  | f + 1, i, seen, B => match s[i]? with
    | none => .ok B
    | some c =>
      if c = 125 then .error (1, i)
      else if c = 123 then match plcF s i with
        | none => .error (1, i)
        | some k => if n ≤ (k : Int) ∨ k ∈ seen then .error (3, i)
          else braL s n f (i + 3) (k :: seen) ⟨B.texts ++ [(s.take i).drop B.from_], B.places ++ [k], i + 3⟩
      else braL s n f (i + 1) seen B
def bra0 (s : List UInt8) (n : Int) : Except (Int × Nat) Bra := braL s n (s.length + 1) 0 [] ⟨[], [], 0⟩
/-- The text with places that a text is. -/
def braF (s : List UInt8) (n : Int) : Except (Int × Nat) (List (List UInt8) × List Nat) :=
  if rightF s = false then .error (1, 0) else match bra0 s n with
    | .error r => .error r
    | .ok B => if (B.places.length : Int) < min n 10 then .error (3, s.length) else .ok (B.texts ++ [s.drop B.from_], B.places)
def braV (r : Except (Int × Nat) (List (List UInt8) × List Nat)) : AV := match r with
  | .error e => .tuple [.agg [.nils, .nils], .int .i64 e.1, .int .i64 e.2]
  | .ok (ts, ps) => .tuple [.agg [.fsl (strEs ts), .fsl (natEs ps)], .int .i64 0, .int .i64 0]
/-- Which digits were seen. -/
def senC (seen : List Nat) : List AV := (List.range 10).map fun k => .bool (decide (k ∈ seen))
theorem senC_get {seen : List Nat} {k : Nat} (hk : k < 10) : (senC seen)[k]? = some (.bool (decide (k ∈ seen))) := by
  unfold senC
  rw [List.getElem?_map, List.getElem?_range hk]; rfl
theorem senC_set {seen : List Nat} {k : Nat} (hk : k < 10) : (senC seen).set k (.bool true) = senC (k :: seen) := by
  apply List.ext_getElem?
  intro j
  by_cases hj : j < 10
  · by_cases e : k = j
    · subst e
      rw [List.getElem?_set_self (by simp [senC]; exact hk), senC_get hk]; simp
    · rw [List.getElem?_set_ne e, senC_get hj, senC_get hj]
      simp [Ne.symm e]
  · rw [List.getElem?_eq_none (by simp [senC]; omega), List.getElem?_eq_none (by simp [senC]; omega)]
theorem drop_at {cs : List AV} {n k : Nat} {a : AV} {K : List AV → Prop} (hn : n = k) (h : cs[k]? = some a) (hk : ∀ r, K (a :: r)) : dropK cs n K := by
  subst hn
  obtain ⟨hlt, ha⟩ := List.getElem?_eq_some_iff.1 h
  refine dropK_of (Nat.le_of_lt hlt) ?_
  rw [List.drop_eq_getElem_cons hlt, ha]
  exact hk _
theorem splice_at {e : List AV} {n k : Nat} {a : AV} {K : List AV → Prop} (hn : n = k) (hk : k < e.length) (h : K (e.set k a)) : spliceK e n [a] K := by
  subst hn
  induction e generalizing n K with
  | nil => simp at hk
  | cons c e ih =>
    cases n with
    | zero =>
      cases e <;> exact h
    | succ n =>
      simp only [spliceK]
      exact ih (by simpa using hk) h
theorem bad_yes {s : List UInt8} {i : Nat} {c d : UInt8} (hc : s[i + 1]? = some c) (hd : s[i + 2]? = some d) (h1 : 48 ≤ c.toNat) (h2 : c.toNat ≤ 57) (h3 : d = 125) : plcF s i = some (c.toNat - 48) := by
  unfold plcF; rw [hc, hd]; simp [h1, h2, h3]
theorem bad_no {s : List UInt8} {i : Nat} {c d : UInt8} (hc : s[i + 1]? = some c) (hd : s[i + 2]? = some d) (h : ¬ (48 ≤ c.toNat ∧ c.toNat ≤ 57 ∧ d = 125)) : plcF s i = none := by
  unfold plcF; rw [hc, hd]; simp only [if_neg h]

theorem BParse_does (m : Int) (s : List UInt8) (n : Int) (hs : s.length < 100000) (hn : -9223372036854775808 ≤ n ∧ n ≤ 9223372036854775807) :
    Does Tryz.prog (GL m) 72 [.str s, .int .i64 n] [] fun ae _ => ae = .ret (braV (braF s n)) := by
  refine Does.bodyA tab Tryz.func72 rfl rfl ?_
  refine AC.step tab ?_
  refine gos ?_
  intro v1
  refine gos ?_
  refine AC.step tab ?_
  refine gos ?_
  refine CallW.pure (Right_does m s (by omega)) rfl rfl ?_
  cases hR : rightF s with
  | false =>
    (repeat (first | refine gof ?_ | refine fun (vv : Nat) => ?_))
    refine RetW.plain (by simp) ?_
    simp only [braF, hR, if_true]
    (first | exact ⟨rfl, rfl⟩ | exact ⟨trivial, rfl⟩ | exact ⟨rfl, trivial⟩ | rfl | trivial | done)
  | true =>
  refine gos ?_
  refine AC.step tab ?_
  refine gos ?_
  intro v2
  refine gos ?_
  refine AC.step tab ?_
  refine gos ?_
  intro v3
  refine gos ?_
  refine AC.step tab ?_
  refine gos ?_
  refine AC.ownC 1 0 9 1 rfl rfl rfl (by omega) fun v4 => ?_
  refine AC.ownC 1 1 3 1 rfl rfl rfl (by omega) fun v5 => ?_
  refine AC.cutF tab (fun e h => ∃ (B : Bra) (va vb : Nat) (o2 : Option AObj), bra0 s n = .ok B ∧ B.from_ ≤ s.length ∧ B.texts.length ≤ s.length ∧
    e = [.str s, .int .i64 n, .any, .any, .ptr 0 v1 0 0, .int .i64 0, .int .i64 0, .ptr 1 v2 0 0, .any, .int .i64 B.from_] ++ List.replicate 105 .any ∧
    h = [some ⟨v1, 127, 2, [[.nils, .nils]]⟩, some ⟨v2, 127, 2, [[.sl 3 va, .sl 4 vb]]⟩, o2, some ⟨va, 9, 1, strEs B.texts⟩, some ⟨vb, 3, 1, natEs B.places⟩]) ?_ ?_
  · refine gos ?_
    refine AC.loopC tab (fun f e h => ∃ (i : Nat) (B : Bra) (seen : List Nat) (va vb : Nat) (tE pE : List (List AV)), s.length < f + i ∧ i ≤ s.length ∧ B.from_ ≤ i ∧ B.texts.length ≤ i ∧ B.places.length ≤ i ∧ bra0 s n = braL s n f i seen B ∧ tE = strEs B.texts ∧ pE = natEs B.places ∧
      e = [.str s, .int .i64 n, .any, .any, .ptr 0 v1 0 0, .int .i64 0, .int .i64 0, .ptr 1 v2 0 0, .ptr 2 v3 0 0, .int .i64 B.from_, .int .i64 i] ++ List.replicate 104 .any ∧
      h = [some ⟨v1, 127, 2, [[.nils, .nils]]⟩, some ⟨v2, 127, 2, [[.sl 3 va, .sl 4 vb]]⟩, some ⟨v3, 160, 10, [senC seen]⟩, some ⟨va, 9, 1, tE⟩, some ⟨vb, 3, 1, pE⟩])
      (s.length + 1) ⟨_, fgts, 0, ⟨[], [], 0⟩, [], v4, v5, [], [], by omega, by omega, by simp, by simp, by simp, rfl, rfl, rfl, rfl, rfl⟩ ?_
    rintro f e h ⟨i, B, seen, va, vb, tE, pE, hf, hi, hfr, htl, hpl, hal, rfl, rfl, rfl, rfl⟩
    obtain ⟨f, rfl⟩ : ∃ q, f = q + 1 := ⟨f - 1, by omega⟩
    have hres : ∀ r, braL s n (f + 1) i seen B = .error r → braF s n = .error r := fun r h => by simp only [braF, hR, hal, h]; simp
    refine gos ?_
    by_cases hlt : i < s.length
    · obtain ⟨c, hc⟩ : ∃ c, s[i]? = some c := ⟨_, List.getElem?_eq_getElem hlt⟩
      simp only [braL, hc] at hal hres
      refine CmpW.T ?_
      refine gos ?_
      refine And.intro (by omega) ⟨c, hc, ?_⟩
      refine gos ?_
      by_cases h125 : c = 125
      · subst h125
        refine CmpW.t (by simp) ?_
        refine gos ?_
        refine RetW.plain (by simp) ?_
        rw [hres _ (if_pos rfl)]; rfl
      rw [if_neg h125] at hal hres
      refine CmpW.f (by simp; exact fun h => h125 (u8_of h rfl)) ?_
      refine gos ?_
      by_cases h123 : c = 123
      · subst h123
        rw [if_pos rfl] at hal hres
        refine CmpW.t (by simp) ?_
        refine gos ?_
        by_cases h2 : i + 2 < s.length
        · obtain ⟨c1, hc1⟩ : ∃ c, s[i + 1]? = some c := ⟨_, List.getElem?_eq_getElem (by omega)⟩
          obtain ⟨c2, hc2⟩ : ∃ c, s[i + 2]? = some c := ⟨_, List.getElem?_eq_getElem (by omega)⟩
          refine CmpW.N ?_
          refine gos ?_
          refine And.intro (by omega) ⟨c1, hc1, ?_⟩
          refine gos ?_
          by_cases g1 : c1.toNat < 48
          · have hp := bad_no hc1 hc2 (by omega)
            refine CmpW.T ?_
            refine gos ?_
            refine RetW.plain (by simp) ?_
            rw [hres _ (by rw [hp])]; rfl
          refine CmpW.N ?_
          refine gos ?_
          refine And.intro (by omega) ⟨c1, hc1, ?_⟩
          refine gos ?_
          by_cases g2 : 57 < c1.toNat
          · have hp := bad_no hc1 hc2 (by omega)
            refine CmpW.T ?_
            refine gos ?_
            refine RetW.plain (by simp) ?_
            rw [hres _ (by rw [hp])]; rfl
          refine CmpW.N ?_
          refine gos ?_
          refine And.intro (by omega) ⟨c2, hc2, ?_⟩
          refine gos ?_
          by_cases g3 : c2 = 125
          case neg =>
            have hp := bad_no hc1 hc2 (fun h => g3 h.2.2)
            refine CmpW.t (by simp; exact fun h => g3 (u8_of h rfl)) ?_
            refine gos ?_
            refine RetW.plain (by simp) ?_
            rw [hres _ (by rw [hp])]; rfl
          have hp := bad_yes hc1 hc2 (by omega) (by omega) g3
          subst g3
          refine CmpW.f (by simp) ?_
          refine gos ?_
          refine And.intro (by omega) ⟨c1, hc1, ?_⟩
          refine gos ?_
          obtain ⟨k, hk⟩ : ∃ k, k = c1.toNat - 48 := ⟨_, rfl⟩
          have hk10 : k < 10 := by omega
          rw [← hk] at hp
          rw [hp] at hal hres
          simp only at hal hres
          have hkk : IntKind.i64.wrap (IntKind.u8.wrap ((c1.toNat : Int) - 48)) = (k : Int) := by
            rw [wrap_u8 (by omega) (by omega), wrap_i64 (by omega) (by omega)]; omega
          rw [hkk]
          by_cases g4 : n ≤ (k : Int)
          · refine CmpW.T ?_
            refine gos ?_
            refine RetW.plain (by simp) ?_
            rw [hres _ (if_pos (.inl g4))]; rfl
          refine CmpW.N ?_
          refine gos ?_
          refine And.intro (And.intro (by omega) (by omega)) ?_
          refine gos ?_
          refine drop_at (k := k) (by show 0 + (k : Int).toNat * 1 = k; simp) (senC_get hk10) (fun r => ?_)
          refine gos ?_
          by_cases g5 : k ∈ seen
          · rw [decide_eq_true g5]
            refine gos ?_
            refine RetW.plain (by simp) ?_
            rw [hres _ (if_pos (.inr g5))]; rfl
          rw [decide_eq_false g5]
          rw [if_neg (by rintro (h | h); exact g4 h; exact g5 h)] at hal
          clear hres hkk hk hp hc1 hc2
          refine gos ?_
          refine And.intro (And.intro (by omega) (by omega)) ?_
          refine gos ?_
          refine splice_at (k := k) (by show 0 + (k : Int).toNat * 1 = k; simp) (by simp [senC]; exact hk10) ?_
          rw [senC_set hk10]
          refine gos ?_
          refine DrawW.P (.take 0 (.take 2 (.take 3 (.take 4 (.take 5 (.take 8 (.take 10 (.fork (.cons 1 (.fork (.cons 6 (.fork (.cons 7 (.fork (.cons 9 (.take 13 (.take 11 (.take 12 (.take 14 (.take 15 (.take 16 .done)))))) (.cons 11 (.take 9 (.take 13 (.take 12 (.take 14 (.take 15 (.take 16 .done)))))) .nil))) (.cons 9 (.fork (.cons 7 (.take 13 (.take 11 (.take 12 (.take 14 (.take 15 (.take 16 .done)))))) (.cons 11 (.take 7 (.take 13 (.take 12 (.take 14 (.take 15 (.take 16 .done)))))) .nil))) (.cons 11 (.fork (.cons 7 (.take 9 (.take 13 (.take 12 (.take 14 (.take 15 (.take 16 .done)))))) (.cons 9 (.take 7 (.take 13 (.take 12 (.take 14 (.take 15 (.take 16 .done)))))) .nil))) .nil)))) (.cons 9 (.fork (.cons 6 (.fork (.cons 7 (.take 13 (.take 11 (.take 12 (.take 14 (.take 15 (.take 16 .done)))))) (.cons 11 (.take 7 (.take 13 (.take 12 (.take 14 (.take 15 (.take 16 .done)))))) .nil))) (.cons 11 (.take 6 (.take 7 (.take 13 (.take 12 (.take 14 (.take 15 (.take 16 .done))))))) .nil))) (.cons 11 (.fork (.cons 6 (.fork (.cons 7 (.take 9 (.take 13 (.take 12 (.take 14 (.take 15 (.take 16 .done)))))) (.cons 9 (.take 7 (.take 13 (.take 12 (.take 14 (.take 15 (.take 16 .done)))))) .nil))) (.cons 9 (.take 6 (.take 7 (.take 13 (.take 12 (.take 14 (.take 15 (.take 16 .done))))))) .nil))) .nil)))) (.cons 6 (.fork (.cons 1 (.fork (.cons 7 (.fork (.cons 9 (.take 13 (.take 11 (.take 12 (.take 14 (.take 15 (.take 16 .done)))))) (.cons 11 (.take 9 (.take 13 (.take 12 (.take 14 (.take 15 (.take 16 .done)))))) .nil))) (.cons 9 (.fork (.cons 7 (.take 13 (.take 11 (.take 12 (.take 14 (.take 15 (.take 16 .done)))))) (.cons 11 (.take 7 (.take 13 (.take 12 (.take 14 (.take 15 (.take 16 .done)))))) .nil))) (.cons 11 (.fork (.cons 7 (.take 9 (.take 13 (.take 12 (.take 14 (.take 15 (.take 16 .done)))))) (.cons 9 (.take 7 (.take 13 (.take 12 (.take 14 (.take 15 (.take 16 .done)))))) .nil))) .nil)))) (.cons 9 (.fork (.cons 1 (.fork (.cons 7 (.take 13 (.take 11 (.take 12 (.take 14 (.take 15 (.take 16 .done)))))) (.cons 11 (.take 7 (.take 13 (.take 12 (.take 14 (.take 15 (.take 16 .done)))))) .nil))) (.cons 11 (.take 1 (.take 7 (.take 13 (.take 12 (.take 14 (.take 15 (.take 16 .done))))))) .nil))) (.cons 11 (.take 1 (.fork (.cons 7 (.take 9 (.take 13 (.take 12 (.take 14 (.take 15 (.take 16 .done)))))) (.cons 9 (.take 7 (.take 13 (.take 12 (.take 14 (.take 15 (.take 16 .done)))))) .nil)))) .nil)))) (.cons 9 (.fork (.cons 1 (.fork (.cons 6 (.fork (.cons 7 (.take 13 (.take 11 (.take 12 (.take 14 (.take 15 (.take 16 .done)))))) (.cons 11 (.take 7 (.take 13 (.take 12 (.take 14 (.take 15 (.take 16 .done)))))) .nil))) (.cons 11 (.take 6 (.take 7 (.take 13 (.take 12 (.take 14 (.take 15 (.take 16 .done))))))) .nil))) (.cons 6 (.fork (.cons 1 (.fork (.cons 7 (.take 13 (.take 11 (.take 12 (.take 14 (.take 15 (.take 16 .done)))))) (.cons 11 (.take 7 (.take 13 (.take 12 (.take 14 (.take 15 (.take 16 .done)))))) .nil))) (.cons 11 (.take 1 (.take 7 (.take 13 (.take 12 (.take 14 (.take 15 (.take 16 .done))))))) .nil))) (.cons 11 (.fork (.cons 1 (.take 6 (.take 7 (.take 13 (.take 12 (.take 14 (.take 15 (.take 16 .done))))))) (.cons 6 (.take 1 (.take 7 (.take 13 (.take 12 (.take 14 (.take 15 (.take 16 .done))))))) .nil))) .nil)))) (.cons 11 (.fork (.cons 1 (.fork (.cons 6 (.fork (.cons 7 (.take 9 (.take 13 (.take 12 (.take 14 (.take 15 (.take 16 .done)))))) (.cons 9 (.take 7 (.take 13 (.take 12 (.take 14 (.take 15 (.take 16 .done)))))) .nil))) (.cons 9 (.take 6 (.take 7 (.take 13 (.take 12 (.take 14 (.take 15 (.take 16 .done))))))) .nil))) (.cons 6 (.take 1 (.fork (.cons 7 (.take 9 (.take 13 (.take 12 (.take 14 (.take 15 (.take 16 .done)))))) (.cons 9 (.take 7 (.take 13 (.take 12 (.take 14 (.take 15 (.take 16 .done)))))) .nil)))) (.cons 9 (.fork (.cons 1 (.take 6 (.take 7 (.take 13 (.take 12 (.take 14 (.take 15 (.take 16 .done))))))) (.cons 6 (.take 1 (.take 7 (.take 13 (.take 12 (.take 14 (.take 15 (.take 16 .done))))))) .nil))) .nil)))) .nil)))))))))))) ?_
          (repeat' (first | exact trivial | refine gon ?_ | refine And.intro (And.intro (by omega) (And.intro (by omega) (by omega))) ?_ | refine fun (vv : Nat) => ?_ | (refine And.intro (And.intro (fun y hy => by rcases List.mem_singleton.1 hy with rfl; rfl) (fun y hy => by rcases List.mem_singleton.1 hy with rfl; rfl)) ?_; refine And.intro (And.intro rfl trivial) ?_) | refine gobnd ?_ | refine And.intro ?_ ?_))
          all_goals
            exact ⟨f, _, 5, by omega, fgts, i + 3, ⟨B.texts ++ [(s.take i).drop B.from_], B.places ++ [k], i + 3⟩, k :: seen, _, _, _, _, by omega, by omega, by simp, by simp; omega, by simp; omega, hal, by simp [strEs], by simp [natEs], rfl, rfl⟩
        · have hp : plcF s i = none := by unfold plcF; rw [List.getElem?_eq_none (show s.length ≤ i + 2 by omega)]; split <;> first | rfl | (rename_i h; cases h)
          rw [hp] at hres
          refine CmpW.T ?_
          refine gos ?_
          refine RetW.plain (by simp) ?_
          rw [hres _ rfl]; rfl
      · rw [if_neg h123] at hal
        refine CmpW.f (by simp; exact fun h => h123 (u8_of h rfl)) ?_
        refine gos ?_
        exact ⟨f, _, 5, by omega, fgts, i + 1, B, seen, va, vb, _, _, by omega, by omega, by omega, by omega, by omega, hal, rfl, rfl, rfl, rfl⟩
    · simp only [braL, List.getElem?_eq_none (show s.length ≤ i by omega)] at hal
      refine CmpW.N ?_
      refine gos ?_
      exact ⟨_, 5, fgts, B, va, vb, _, hal, by omega, by omega, rfl, rfl⟩
  rintro e h ⟨B, va, vb, o2, hB, hfr, htl, rfl, rfl⟩
  have hF : braF s n = if (B.places.length : Int) < min n 10 then .error (3, s.length) else .ok (B.texts ++ [s.drop B.from_], B.places) := by simp only [braF, hR, hB]; simp
  have hmin : (if (10 : Int) < n then (10 : Int) else n) = min n 10 := by omega
  refine AC.step tab ?_
  refine gos ?_
  rw [hmin]
  by_cases hlt : (B.places.length : Int) < min n 10
  · refine CmpW.t (by simpa using hlt) ?_
    refine gos ?_
    refine RetW.plain (by simp) ?_
    rw [hF, if_pos hlt]; rfl
  refine CmpW.f (by simpa using hlt) ?_
  refine gos ?_
  rw [if_neg hlt] at hF
  refine AC.go tab ?_
  refine gos ?_
  refine DrawW.P (.take 0 (.take 2 (.take 3 (.take 4 (.fork (.cons 1 (.take 5 (.take 6 (.take 7 (.take 8 .done)))) (.cons 5 (.take 1 (.take 6 (.take 7 (.take 8 .done)))) .nil))))))) ?_
  (repeat' (first | exact trivial | refine gon ?_ | refine And.intro (And.intro (by omega) (by omega)) ?_ | refine fun (vv : Nat) => ?_ | (refine And.intro (And.intro (fun y hy => by rcases List.mem_singleton.1 hy with rfl; rfl) (fun y hy => by rcases List.mem_singleton.1 hy with rfl; rfl)) ?_; refine And.intro (And.intro rfl trivial) ?_) | refine gobnd ?_ | refine And.intro ?_ ?_))
  all_goals
    refine RetW.wk (r' := .tuple [.agg [.fsl (strEs B.texts ++ [[.str (s.drop B.from_)]]), .fsl (natEs B.places)], .int .i64 0, .int .i64 0]) (by simp) ?_ (Wk.tuple (Wk.agg (cs := [.sl 3 vv, .sl 4 vb]) (cs' := [.fsl (strEs B.texts ++ [[.str (s.drop B.from_)]]), .fsl (natEs B.places)]) rfl
      (Wk.trans (Wk.row (k := 0) (i := 3) (o := ⟨vv, 9, 1, strEs B.texts ++ [[.str (s.drop B.from_)]]⟩) rfl rfl rfl (strEs1_closed _ _)) (Wk.row (k := 1) (i := 4) (o := ⟨vb, 3, 1, natEs B.places⟩) rfl rfl rfl (natEs_closed _))))) ?_
    · rfl
    · rw [hF]
      simp [braV, strEs]
end Go.Proofs.YtpipbjfcbbdicaaGreatDoor

namespace Go.Proofs.YtpipbjfcbbdicaaGreatDoor
open Go Go.Abs
attribute [local irreducible] DrawW CallW RetW AC Does CmpW
variable {G : Globs}

def catG (l : List TTxt) (i : Nat) : Bool := match l[i]? with
  | some x => decide (0 ≤ x.cat) && (decide (i = 0) || match l[i - 1]? with
    | some y => decide (y.cat < x.cat)
    | none => false)
  | none => false
def lastC (l : List TTxt) : Bool := match l.getLast? with
  | some x => decide (x.cat = 5)
  | none => false
/-- Are texts by category, each as it must be? -/
def catsF (l : List TTxt) (ok : Nat → Bool) : Bool := lastC l && allB (fun i => catG l i && ok i) l.length

theorem cats1_does (l : List TTxt) (hl : l.length < 100000) (i : Nat) (x : TTxt) (hx : l[i]? = some x) (fid : FuncId) (cap : List AV) (hcap : closedL cap = true) (r : Bool)
    (hok : Does Tryz.prog G fid ([] ++ [.str x.text] ++ cap) [] fun ae _ => ae = .ret (.bool r)) :
    Does Tryz.prog G 70 ([] ++ [.int .i64 (i : Nat), .agg (encT x)] ++ [.fptr [txtL l], .fptr [.func (.func fid) [] cap]]) [] fun ae _ => ae = .ret (.bool (catG l i && r)) := by
  have hlt := (List.getElem?_eq_some_iff.1 hx).1
  refine Does.body tab Tryz.func70 rfl rfl ?_
  refine gos ?_
  intro v1
  refine gos ?_
  refine DrawW.L ?_
  refine gos ?_
  have hG : catG l i = (decide (0 ≤ x.cat) && (decide (i = 0) || match l[i - 1]? with
    | some y => decide (y.cat < x.cat)
    | none => false)) := by unfold catG; rw [hx]
  by_cases h0 : 0 ≤ x.cat
  case neg =>
    refine CmpW.N ?_
    refine gos ?_
    refine RetW.plain (by simp) ?_
    rw [hG]; simp [h0]
  refine CmpW.T ?_
  refine gos ?_
  by_cases hi : i = 0
  · refine CmpW.T ?_
    refine gos ?_
    refine CallW.pure hok (by simp [closedL, closed, hcap]) rfl ?_
    refine gos ?_
    refine RetW.plain (by simp) ?_
    rw [hG]; simp [h0, hi]
  refine CmpW.N ?_
  refine gos ?_
  obtain ⟨y, hy⟩ : ∃ y, l[i - 1]? = some y := ⟨_, List.getElem?_eq_getElem (by omega)⟩
  rw [show (i : Int) - 1 = ((i - 1 : Nat) : Int) by omega]
  refine And.intro (encT_two l) (And.intro (by omega) ⟨encT y, map_get hy, ?_⟩)
  refine gos ?_
  by_cases hc : y.cat < x.cat
  · refine CmpW.T ?_
    refine gos ?_
    refine CallW.pure hok (by simp [closedL, closed, hcap]) rfl ?_
    refine gos ?_
    refine RetW.plain (by simp) ?_
    rw [hG, hy]; simp [h0, hi, hc]
  · refine CmpW.N ?_
    refine gos ?_
    refine RetW.plain (by simp) ?_
    rw [hG, hy]; simp [h0, hi, hc]
theorem last_get {l : List TTxt} {y : TTxt} (h : l[l.length - 1]? = some y) : lastC l = decide (y.cat = 5) := by
  unfold lastC; rw [List.getLast?_eq_getElem?, h]
theorem cats_does (l : List TTxt) (hl : l.length < 100000) (fid : FuncId) (cap : List AV) (hcap : closedL cap = true) (ok : Nat → Bool)
    (hok : ∀ (i : Nat) (x : TTxt), l[i]? = some x → Does Tryz.prog G fid ([] ++ [.str x.text] ++ cap) [] fun ae _ => ae = .ret (.bool (ok i))) :
    Does Tryz.prog G 37 [txtL l, .func (.func fid) [] cap] [] fun ae _ => ae = .ret (.bool (catsF l ok)) := by
  have ll : (l.map encT).length = l.length := by simp
  refine Does.bodyA tab Tryz.func37 rfl rfl ?_
  refine AC.step tab ?_
  refine gos ?_
  intro v1
  refine gos ?_
  intro v2
  refine gos ?_
  refine AC.wk (Wk.ptr (k := 2) (i := 0) rfl rfl rfl rfl rfl) ?_
  refine AC.wk (Wk.ptr (k := 3) (i := 1) rfl rfl rfl rfl (by simp [closedLL, closedL, closed, hcap])) ?_
  refine AC.step tab ?_
  refine gos ?_
  rw [ll]
  by_cases h0 : l.length = 0
  · have h0' : l = [] := List.eq_nil_of_length_eq_zero h0
    refine CmpW.T ?_
    refine gos ?_
    refine RetW.plain (by simp) ?_
    subst h0'
    rfl
  refine CmpW.N ?_
  refine gos ?_
  obtain ⟨y, hy⟩ : ∃ y, l[l.length - 1]? = some y := ⟨_, List.getElem?_eq_getElem (by omega)⟩
  rw [ll, show (l.length : Int) - 1 = ((l.length - 1 : Nat) : Int) by omega]
  refine gos ?_
  refine And.intro (encT_two l) (And.intro (by omega) ⟨encT y, map_get hy, ?_⟩)
  refine gos ?_
  have hL := last_get hy
  by_cases h5 : y.cat = 5
  case neg =>
    refine CmpW.t (by simpa using h5) ?_
    refine gos ?_
    refine RetW.plain (by simp) ?_
    rw [catsF, hL]; simp [h5]
  refine CmpW.f (by simpa using h5) ?_
  refine gos ?_
  refine AC.go tab ?_
  refine gos ?_
  refine CallW.pure (evT_does l (fun i => catG l i && ok i) 70 [.fptr [txtL l], .fptr [.func (.func fid) [] cap]] rfl hl fun i x hx => cats1_does l hl i x hx fid cap hcap (ok i) (hok i x hx)) rfl rfl ?_
  refine gos ?_
  refine RetW.plain (by simp) ?_
  rw [catsF, hL]; simp [h5]

/-- A text with so many places? -/
def plcOk (n : Int) (s : List UInt8) : Bool := match braF s n with
  | .ok _ => decide (s.length ≤ 60)
  | .error _ => false
theorem braF_bad {s : List UInt8} {n : Int} {e : Int × Nat} (h : braF s n = .error e) : e.1 = 1 ∨ e.1 = 3 := by
  unfold braF at h
  split at h
  · simp at h; subst h; exact .inl rfl
  have key : ∀ (f i : Nat) (seen : List Nat) (B : Bra) (e : Int × Nat), braL s n f i seen B = .error e → e.1 = 1 ∨ e.1 = 3 := by
    intro f
    induction f with
    | zero => intro i seen B e h; simp [braL] at h
    | succ f ih =>
      intro i seen B e h
      unfold braL at h
      split at h
      · cases h
      split at h
      · simp at h; subst h; exact .inl rfl
      split at h
      · split at h
        · simp at h; subst h; exact .inl rfl
        split at h
        · simp at h; subst h; exact .inr rfl
        · exact ih _ _ _ _ h
      · exact ih _ _ _ _ h
  split at h
  · rename_i r hr
    simp at h; subst h
    exact key _ _ _ _ _ hr
  · split at h
    · simp at h; subst h; exact .inr rfl
    · cases h
theorem places1_does (m : Int) (s : List UInt8) (n : Int) (hs : s.length < 100000) (hn : -9223372036854775808 ≤ n ∧ n ≤ 9223372036854775807) :
    Does Tryz.prog (GL m) 71 ([] ++ [.str s] ++ [.fptr [.int .i64 n]]) [] fun ae _ => ae = .ret (.bool (plcOk n s)) := by
  refine Does.bodyA tab Tryz.func71 rfl rfl ?_
  refine AC.step tab ?_
  refine gos ?_
  refine AC.step tab ?_
  refine gos ?_
  have dB := BParse_does m s n hs hn
  cases hE : braF s n with
  | error e =>
    have hb := braF_bad hE
    rw [hE] at dB
    refine CallW.pure dB rfl rfl ?_
    (repeat (first | refine gof ?_ | refine fun (vv : Nat) => ?_))
    refine AC.go tab ?_
    refine gos ?_
    refine CmpW.f (by simp; omega) ?_
    refine gos ?_
    refine RetW.plain (by simp) ?_
    simp [plcOk, hE]
  | ok q =>
    obtain ⟨ts, ps⟩ := q
    rw [hE] at dB
    refine CallW.pure dB rfl rfl ?_
    (repeat (first | refine gof ?_ | refine fun (vv : Nat) => ?_))
    refine AC.go tab ?_
    refine gos ?_
    refine CmpW.s ?_
    refine gos ?_
    refine RetW.plain (by simp) ?_
    simp only [plcOk, hE]
    congr 2
    rw [Bool.eq_iff_iff]; simp; omega
def plcV (n : Int) : AV := .func (.func 71) [] [.fptr [.int .i64 n]]
theorem places_does (n : Int) : Does Tryz.prog G 38 [.int .i64 n] [] fun ae _ => ae = .ret (plcV n) := by
  refine Does.bodyA tab Tryz.func38 rfl rfl ?_
  refine AC.step tab ?_
  refine gos ?_
  intro v1
  refine gos ?_
  refine AC.wk (Wk.ptr (k := 1) (i := 0) rfl rfl rfl rfl rfl) ?_
  refine AC.go tab ?_
  refine gos ?_
  refine RetW.plain (by simp) ?_
  rfl
end Go.Proofs.YtpipbjfcbbdicaaGreatDoor

namespace Go.Proofs.YtpipbjfcbbdicaaGreatDoor
open Go Go.Abs
attribute [local irreducible] DrawW CallW RetW AC Does CmpW
set_option maxRecDepth 100000
variable {G : Globs}

def rdr (ver : Nat) (s : List UInt8) (a : Nat) : AObj := ⟨ver, 147, 2, [[.str s, .int .i64 a]]⟩
/-- Is a text next? -/
def pre (s : List UInt8) (a : Nat) (t : List UInt8) : Bool := t.isPrefixOf (s.drop a)
theorem pre_le {s t : List UInt8} {a : Nat} (h : pre s a t = true) (ht : t ≠ []) : a + t.length ≤ s.length := by
  have h1 := (List.isPrefixOf_iff_prefix.1 h).length_le
  rw [List.length_drop] at h1
  have : 0 < t.length := List.length_pos_iff.2 ht
  omega

theorem take_yes {s t : List UInt8} {a : Nat} (n : Nat) (hn : t.length = n) (h : pre s a t = true) (ha : a + n ≤ s.length) (hs : s.length < 4294967296) (ver : Nat) :
    Does Tryz.prog G 116 [.ptr 0 ver 0 0, .str t] [some (rdr ver s a)] fun ae O => ae = .ret (.bool true) ∧ O = [some (rdr ver s (a + n))] := by
  subst hn
  refine Does.body tab Tryz.func116 rfl rfl ?_
  refine DrawW.L ?_
  refine gos ?_
  refine And.intro (And.intro (by omega) (by omega)) ?_
  refine CallW.pure (HasPrefix_does G _ _) rfl rfl ?_
  have h' : t.isPrefixOf (s.drop (a : Int).toNat) = true := h
  rw [h']
  refine gos ?_
  refine RetW.plain (Nat.le_refl _) ?_
  exact ⟨rfl, rfl⟩
theorem take_no {s t : List UInt8} {a : Nat} (h : pre s a t = false) (ha : a ≤ s.length) (ver : Nat) :
    Does Tryz.prog G 116 [.ptr 0 ver 0 0, .str t] [some (rdr ver s a)] fun ae O => ae = .ret (.bool false) ∧ O = [some (rdr ver s a)] := by
  refine Does.body tab Tryz.func116 rfl rfl ?_
  refine DrawW.L ?_
  refine gos ?_
  refine And.intro (And.intro (by omega) (by omega)) ?_
  refine CallW.pure (HasPrefix_does G _ _) rfl rfl ?_
  have h' : t.isPrefixOf (s.drop (a : Int).toNat) = false := h
  rw [h']
  refine gos ?_
  refine RetW.plain (Nat.le_refl _) ?_
  exact ⟨rfl, rfl⟩

/-- Giving up. -/
def faultV (a : Nat) : AV := .iface 143 (.agg [.int .i64 a])
theorem fail_does (s : List UInt8) (a ver : Nat) :
    Does Tryz.prog G 117 [.ptr 0 ver 0 0] [some (rdr ver s a)] fun ae O => ae = .panic (faultV a) ∧ O = [some (rdr ver s a)] := by
  refine Does.body tab Tryz.func117 rfl rfl ?_
  refine gos ?_
  exact ⟨Nat.le_refl _, rfl, rfl⟩

structure Piece where
  kind : Int
  text : List UInt8
  n : Int
def encP (p : Piece) : List AV := [.int .i64 p.kind, .str p.text, .int .i64 p.n]

/-- How many currency signs are next. -/
def curN (s : List UInt8) : Nat → Nat → Nat
  | 0, _ => 0
  | f + 1, a => if pre s a [194, 164] then curN s f (a + 2) + 1 else 0
def signF (s : List UInt8) (a : Nat) : Piece × Bool × Nat :=
  if pre s a [45] then (⟨1, [], 0⟩, true, a + 1)
  else if pre s a [43] then (⟨2, [], 0⟩, true, a + 1)
  else if pre s a [37] then (⟨3, [], 0⟩, true, a + 1)
  else if pre s a [226, 128, 176] then (⟨4, [], 0⟩, true, a + 3)
  else (⟨5, [], curN s s.length a⟩, decide (0 < curN s s.length a), a + 2 * curN s s.length a)

theorem sign_does (s : List UInt8) (a : Nat) (ha : a ≤ s.length) (hs : s.length < 4294967296) (ver : Nat) :
    Does Tryz.prog G 140 [.ptr 0 ver 0 0] [some (rdr ver s a)] fun ae O => ae = .ret (.tuple [.agg (encP (signF s a).1), .bool (signF s a).2.1]) ∧ O = [some (rdr ver s (signF s a).2.2)] := by
  refine Does.body tab Tryz.func140 rfl rfl ?_
  refine gos ?_
  intro v2
  refine gos ?_
  refine AC.rounds tab 6 ?_
  refine gos ?_
  cases h1 : pre s a [45] with
  | true =>
    refine CallW.meth 0 (take_yes 1 rfl h1 (pre_le h1 (by simp)) hs _) rfl rfl rfl rfl rfl rfl ?_
    refine gos ?_
    refine RetW.plain (by simp) ?_
    simp [signF, h1, encP]
  | false =>
    refine CallW.meth 0 (take_no h1 ha _) rfl rfl rfl rfl rfl rfl ?_
    refine gos ?_
    cases h2 : pre s a [43] with
    | true =>
      refine CallW.meth 0 (take_yes 1 rfl h2 (pre_le h2 (by simp)) hs _) rfl rfl rfl rfl rfl rfl ?_
      refine gos ?_
      refine RetW.plain (by simp) ?_
      simp [signF, h1, h2, encP]
    | false =>
      refine CallW.meth 0 (take_no h2 ha _) rfl rfl rfl rfl rfl rfl ?_
      refine gos ?_
      cases h3 : pre s a [37] with
      | true =>
        refine CallW.meth 0 (take_yes 1 rfl h3 (pre_le h3 (by simp)) hs _) rfl rfl rfl rfl rfl rfl ?_
        refine gos ?_
        refine RetW.plain (by simp) ?_
        simp [signF, h1, h2, h3, encP]
      | false =>
        refine CallW.meth 0 (take_no h3 ha _) rfl rfl rfl rfl rfl rfl ?_
        refine gos ?_
        cases h4 : pre s a [226, 128, 176] with
        | true =>
          refine CallW.meth 0 (take_yes 3 rfl h4 (pre_le h4 (by simp)) hs _) rfl rfl rfl rfl rfl rfl ?_
          refine gos ?_
          refine RetW.plain (by simp) ?_
          simp [signF, h1, h2, h3, h4, encP]
        | false =>
          refine CallW.meth 0 (take_no h4 ha _) rfl rfl rfl rfl rfl rfl ?_
          refine gos ?_
          refine AC.loopF tab (fun n e h => ∃ k, n = s.length - k ∧ a + 2 * k ≤ s.length ∧ curN s s.length a = k + curN s (s.length - k) (a + 2 * k) ∧ e = [.ptr 0 ver 0 0, .any, .ptr 1 v2 0 0, .bool false, .any, .any, .int .i64 k] ++ List.replicate 23 .any ∧
              h = [some (rdr ver s (a + 2 * k)), some ⟨v2, 190, 3, [[.int .i64 0, .str [], .int .i64 0]]⟩]) s.length ⟨_, fgts, 0, by simp, by omega, by simp, rfl, rfl⟩ ?_
          rintro n e h ⟨k, rfl, hk, hc, rfl, rfl⟩
          cases hp : pre s (a + 2 * k) [194, 164] with
          | true =>
            have hle := pre_le hp (by simp)
            simp only [List.length_cons, List.length_nil] at hle
            refine CallW.meth 0 (take_yes 2 rfl hp (by omega) hs _) rfl rfl rfl rfl rfl rfl ?_
            refine gos ?_
            have e1 : (k : Int) + 1 = ((k + 1 : Nat) : Int) := by omega
            rw [e1]
            refine ⟨_, _, ?_, fgts, k + 1, rfl, by omega, ?_, rfl, rfl⟩
            · omega
            · rw [hc]
              obtain ⟨f, hf⟩ : ∃ f, s.length - k = f + 1 := ⟨s.length - k - 1, by omega⟩
              rw [hf, show s.length - (k + 1) = f by omega]
              simp only [curN, hp, if_true]
              rw [show a + 2 * (k + 1) = a + 2 * k + 2 by omega]; omega
          | false =>
            refine CallW.meth 0 (take_no hp hk _) rfl rfl rfl rfl rfl rfl ?_
            refine gos ?_
            refine CmpW.s ?_
            refine gos ?_
            refine RetW.plain (by simp) ?_
            have h0 : curN s (s.length - k) (a + 2 * k) = 0 := by
              cases s.length - k with
              | zero => rfl
              | succ f => simp [curN, hp]
            rw [h0] at hc
            simp [signF, h1, h2, h3, h4, encP, hc]

end Go.Proofs.YtpipbjfcbbdicaaGreatDoor

namespace Go.Proofs.YtpipbjfcbbdicaaGreatDoor
open Go Go.Abs
attribute [local irreducible] DrawW CallW RetW AC Does CmpW
set_option maxRecDepth 100000
variable {G : Globs}

/-- What stands between quotes, and where it ends; or where it gives up. -/
def quoL (s : List UInt8) : Nat → Nat → List UInt8 → Option (List UInt8 × Nat)
  | 0, _, _ => none
  | f + 1, a, acc => if s.length ≤ a then none else
      if pre s a [39, 39] then quoL s f (a + 2) (acc ++ [39])
      else if pre s a [39] then some (acc, a + 1)
      else quoL s f (a + 1) (acc ++ [s.getD a 0])
def quoF (s : List UInt8) (a : Nat) : Option (List UInt8 × Nat) := if pre s a [39] then some ([39], a + 1) else quoL s (s.length + 1 - a) a []
def quoP (s : List UInt8) (ver : Nat) (r : Option (List UInt8 × Nat)) (ae : AEnd) (O : AHeap) : Prop := match r with
  | some (t, b) => ae = .ret (.str t) ∧ O = [some (rdr ver s b)]
  | none => ae = .panic (faultV s.length) ∧ O = [some (rdr ver s s.length)]

theorem quoted_does (s : List UInt8) (a : Nat) (ha : a ≤ s.length) (hs : s.length < 1000000) (ver : Nat) :
    Does Tryz.prog G 154 [.ptr 0 ver 0 0] [some (rdr ver s a)] (quoP s ver (quoF s a)) := by
  refine Does.body tab Tryz.func154 rfl rfl ?_
  refine gos ?_
  cases h1 : pre s a [39] with
  | true =>
    refine CallW.meth 0 (take_yes 1 rfl h1 (pre_le h1 (by simp)) (by omega) _) rfl rfl rfl rfl rfl rfl ?_
    refine gos ?_
    refine RetW.plain (by simp) ?_
    simp [quoF, h1, quoP]
  | false =>
    refine CallW.meth 0 (take_no h1 ha _) rfl rfl rfl rfl rfl rfl ?_
    refine gos ?_
    intro v1
    refine gos ?_
    intro v2
    refine gos ?_
    refine AC.loopF tab (fun n e h => ∃ b acc rv ad, s.length < n + b ∧ b ≤ s.length ∧ acc.length ≤ b ∧ quoF s a = quoL s n b acc ∧ Self 2 v2 ad ∧ e = [.ptr 0 ver 0 0, .any, .str [], .ptr 2 v2 0 0] ++ List.replicate 40 .any ∧
      h = [some (rdr ver s b), some ⟨rv, 5, 1, byteEs' acc⟩, some (bldO 94 v2 ad (.sl 1 rv))]) (s.length + 1 - a) ⟨_, fgts, a, [], v1, .nilp, by omega, ha, by simp, by simp [quoF, h1], .nil, rfl, rfl⟩ ?_
    rintro n e h ⟨b, acc, rv, ad, hn, hb, hacc, hq, had, rfl, rfl⟩
    obtain ⟨n, rfl⟩ : ∃ m, n = m + 1 := ⟨n - 1, by omega⟩
    simp only [quoL] at hq
    refine DrawW.L ?_
    refine gos ?_
    refine CmpW.split (fun hc => ?_) (fun hc => ?_)
    · have hbe : b = s.length := by have : (b : Int) = s.length := by simpa using hc
                                    omega
      subst hbe
      rw [if_pos (Nat.le_refl _)] at hq
      refine gos ?_
      refine CallW.of1 0 (fail_does s s.length ver) rfl rfl rfl rfl ?_
      rintro ae O ⟨rfl, rfl⟩
      refine ⟨_, rfl, rfl, rfl, ?_⟩
      refine gos ?_
      refine ⟨by simp, ?_⟩
      rw [hq]
      exact ⟨rfl, rfl⟩
    · have hbl : b < s.length := by
        have : ¬ (b : Int) = s.length := by simpa using hc
        omega
      rw [if_neg (by omega)] at hq
      refine gos ?_
      cases h2 : pre s b [39, 39] with
      | true =>
        have hle := pre_le h2 (by simp)
        simp only [List.length_cons, List.length_nil] at hle
        rw [if_pos h2] at hq
        refine CallW.meth 0 (take_yes 2 rfl h2 hle (by omega) _) rfl rfl rfl rfl rfl rfl ?_
        refine gos ?_
        refine CallW.bldW (i := 2) (j := 1) (by decide) had rfl rfl (fun a' h => WriteByte_does acc h 39 (by omega)) rfl rfl (fun rv' => ?_)
        refine gos ?_
        refine ⟨n, _, by omega, fgts, b + 2, acc ++ [39], rv', _, by omega, by omega, by simp; omega, hq, .at_, rfl, rfl⟩
      | false =>
        rw [if_neg (by simp [h2])] at hq
        refine CallW.meth 0 (take_no h2 hb _) rfl rfl rfl rfl rfl rfl ?_
        refine gos ?_
        cases h3 : pre s b [39] with
        | true =>
          have hle := pre_le h3 (by simp)
          simp only [List.length_cons, List.length_nil] at hle
          rw [if_pos h3] at hq
          refine CallW.meth 0 (take_yes 1 rfl h3 hle (by omega) _) rfl rfl rfl rfl rfl rfl ?_
          refine gos ?_
          refine CallW.bldS (i := 2) (j := 1) (by decide) had rfl rfl (fun a' h => String_bld acc h) rfl rfl ?_
          refine gos ?_
          refine RetW.plain (by simp) ?_
          rw [hq]
          exact ⟨rfl, rfl⟩
        | false =>
          rw [if_neg (by simp [h3])] at hq
          refine CallW.meth 0 (take_no h3 hb _) rfl rfl rfl rfl rfl rfl ?_
          refine gos ?_
          refine DrawW.L ?_
          refine gos ?_
          refine And.intro (by omega) ?_
          refine Exists.intro (s.getD b 0) (And.intro (by simp [List.getD, hbl]) ?_)
          refine gos ?_
          refine CallW.bldW (i := 2) (j := 1) (by decide) had rfl rfl (fun a' h => WriteByte_does acc h _ (by omega)) rfl rfl (fun rv' => ?_)
          refine gos ?_
          refine ⟨n, _, by omega, fgts, b + 1, _, rv', _, by omega, by omega, by simp; omega, hq, .at_, rfl, rfl⟩

def special : List UInt8 := [35, 48, 49, 50, 51, 52, 53, 54, 55, 56, 57, 44, 46, 59, 64, 42, 45, 43, 37, 39]
theorem dec_le (s : List UInt8) : (dec s).2 ≤ s.length := by
  unfold dec Lib.decodeGo
  split
  · exact Nat.zero_le _
  · rename_i h
    exact Lib.width_le ⟨⟨s⟩⟩ (Nat.pos_of_ne_zero h)
theorem dec_pos (s : List UInt8) (h : s ≠ []) : 1 ≤ (dec s).2 := by
  have hp : 0 < s.length := List.length_pos_iff.2 h
  have : ¬ (⟨⟨s⟩⟩ : ByteArray).size = 0 := by rw [str_size]; omega
  unfold dec Lib.decodeGo
  rw [if_neg this]
  exact Lib.decode_width_pos _ 0 (by rw [str_size]; exact hp)
/-- A literal, whether there is one, and where it ends; or where it gives up. -/
def litF (s : List UInt8) (a : Nat) : Option ((List UInt8 × Bool) × Nat) :=
  if pre s a [39] then (quoF s (a + 1)).map fun r => ((r.1, true), r.2)
  else if s.length ≤ a ∨ 0 ≤ Lib.indexByte special (s.getD a 0) then some (([], false), a)
  else some ((((s.take (a + (dec (s.drop a)).2)).drop a), true), a + (dec (s.drop a)).2)
def litP (s : List UInt8) (ver : Nat) (r : Option ((List UInt8 × Bool) × Nat)) (ae : AEnd) (O : AHeap) : Prop := match r with
  | some (t, b) => ae = .ret (.tuple [.str t.1, .bool t.2]) ∧ O = [some (rdr ver s b)]
  | none => ae = .panic (faultV s.length) ∧ O = [some (rdr ver s s.length)]

theorem literal_does {m : Int} (s : List UInt8) (a : Nat) (ha : a ≤ s.length) (hs : s.length < 1000000) (ver : Nat) :
    Does Tryz.prog (GL m) 141 [.ptr 0 ver 0 0] [some (rdr ver s a)] (litP s ver (litF s a)) := by
  refine Does.body tab Tryz.func141 rfl rfl ?_
  refine gos ?_
  cases h1 : pre s a [39] with
  | true =>
    have hle := pre_le h1 (by simp)
    simp only [List.length_cons, List.length_nil] at hle
    refine CallW.meth 0 (take_yes 1 rfl h1 hle (by omega) _) rfl rfl rfl rfl rfl rfl ?_
    refine gos ?_
    refine CallW.of1 0 (quoted_does s (a + 1) (by omega) hs ver) rfl rfl rfl rfl ?_
    intro ae O hq
    have hl : litF s a = (quoF s (a + 1)).map fun r => ((r.1, true), r.2) := by simp [litF, h1]
    rw [hl]
    cases h2 : quoF s (a + 1) with
    | none =>
      rw [h2] at hq
      obtain ⟨rfl, rfl⟩ := hq
      refine ⟨_, rfl, rfl, rfl, ?_⟩
      refine gos ?_
      exact ⟨by simp, rfl, rfl⟩
    | some r =>
      rw [h2] at hq
      obtain ⟨rfl, rfl⟩ := hq
      refine ⟨_, rfl, rfl, rfl, ?_⟩
      refine gos ?_
      refine RetW.plain (by simp) ?_
      exact ⟨rfl, rfl⟩
  | false =>
    refine CallW.meth 0 (take_no h1 ha _) rfl rfl rfl rfl rfl rfl ?_
    refine gos ?_
    refine DrawW.L ?_
    refine gos ?_
    by_cases hbe : a = s.length
    · subst hbe
      refine CmpW.t (by simp) ?_
      refine gos ?_
      refine RetW.plain (by simp) ?_
      simp [litF, h1, litP]
    · have hal : a < s.length := by omega
      have hget : s[(a : Int).toNat]? = some (s.getD a 0) := by simp [List.getD, hal]
      refine CmpW.f (by simp; omega) ?_
      refine gos ?_
      refine And.intro (by omega) ?_
      refine Exists.intro (s.getD a 0) (And.intro hget ?_)
      refine gos ?_
      refine CallW.pure (IndexByte_does _ _ _) rfl rfl ?_
      refine gos ?_
      have hc : ((s.getD a 0).toNat : Int).toNat.toUInt8 = s.getD a 0 := by simp
      rw [hc]
      change binIntW BinOp.geq IntKind.i64 (Lib.indexByte special (s.getD a 0)) 0 _
      by_cases hsp : 0 ≤ Lib.indexByte special (s.getD a 0)
      · refine CmpW.t (by simpa using hsp) ?_
        refine gos ?_
        refine RetW.plain (by simp) ?_
        have : litF s a = some (([], false), a) := by
          unfold litF
          rw [if_neg (by simp [h1]), if_pos (.inr hsp)]
        rw [this]
        exact ⟨rfl, rfl⟩
      · refine CmpW.f (by simpa using hsp) ?_
        refine gos ?_
        refine DrawW.L ?_
        refine gos ?_
        refine And.intro (And.intro (by omega) (by omega)) ?_
        refine CallW.pure (Decode_does m _) rfl rfl ?_
        have hd : s.drop (a : Int).toNat = s.drop a := by simp
        rw [hd]
        have hn1 := dec_le (s.drop a)
        rw [List.length_drop] at hn1
        have hl : litF s a = some ((((s.take (a + (dec (s.drop a)).2)).drop a), true), a + (dec (s.drop a)).2) := by
          unfold litF
          rw [if_neg (by simp [h1]), if_neg (by simp only [not_or]; exact ⟨by omega, hsp⟩)]
        rw [hl]
        generalize (dec (s.drop a)) = d at *
        obtain ⟨r, n⟩ := d
        dsimp only at *
        refine gos ?_
        have e1 : (a : Int) + (n : Nat) = ((a + n : Nat) : Int) := by omega
        rw [e1]
        refine DrawW.L ?_
        refine gos ?_
        have e2 : ((a + n : Nat) : Int) - (n : Nat) = (a : Int) := by omega
        rw [e2]
        refine gos ?_
        refine And.intro ⟨by omega, by omega, by omega⟩ ?_
        refine gos ?_
        refine RetW.plain (by simp) ?_
        exact ⟨by rw [Int.toNat_natCast, Int.toNat_natCast], rfl⟩
end Go.Proofs.YtpipbjfcbbdicaaGreatDoor
