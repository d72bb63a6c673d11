/- Sorting ranges: pdqsort. -/
import Derived.Test.YtpbjjhpihhnomaaGreatDoorJ12
set_option linter.unusedVariables false
set_option linter.unusedSimpArgs false
set_option maxRecDepth 100000
set_option maxHeartbeats 4000000

namespace Go.Proofs.YtpbjjhpihhnomaaGreatDoor
open Go Go.Abs
attribute [local irreducible] DrawW CallW RetW AC Does CmpW
variable {G : Globs}
theorem swoR : Sort.SWO ltR where
  irrefl := fun x => by simp [ltR]
  trans := fun x y z h1 h2 => by
    simp only [ltR, decide_eq_true_eq, Fin.lt_def] at *; omega
  ntrans := fun x y z h1 h2 => by
    simp only [ltR, decide_eq_false_iff_not, Fin.lt_def] at *; omega
theorem pdq_step {d : Array Rg} {a b limit : Nat} {wb wp : Bool} (h12 : ¬ b - a ≤ 12) (h0 : ¬ limit = 0) {d1 : Array Rg} {l1 : Nat} {c : Nat × Sort.Hint} {d2 : Array Rg} {pv : Nat} {hint : Sort.Hint} {pi : Array Rg × Bool}
    (e1 : d1 = if !wb then Sort.breakPatterns d a b else d) (e2 : l1 = if !wb then limit - 1 else limit) (e3 : c = Sort.choosePivot ltR d1 a b) (e4 : d2 = if c.2 = .decreasing then Sort.reverseRange d1 a b else d1)
    (e5 : pv = if c.2 = .decreasing then (b - 1) - (c.1 - a) else c.1) (e6 : hint = if c.2 = .decreasing then Sort.Hint.increasing else c.2) (e7 : pi = if wb && wp && hint = .increasing then Sort.partialInsertionSort ltR d2 a b else (d2, false)) :
    Sort.pdq ltR d a b limit wb wp = if pi.2 then pi.1 else if a > 0 && !ltR pi.1[a - 1]! pi.1[pv]! then
        (match Sort.partitionEqual ltR pi.1 a b pv with | (mid, d4) => if a < mid ∧ mid ≤ b then Sort.pdq ltR d4 mid b l1 wb wp else d4)
      else (match Sort.partition ltR pi.1 a b pv with | (mid, ap, d4) => if a ≤ mid ∧ mid < b then
          (if mid - a < b - mid then Sort.pdq ltR (Sort.pdq ltR d4 a mid l1 true true) (mid + 1) b l1 (decide (mid - a ≥ (b - a) / 8)) ap
          else Sort.pdq ltR (Sort.pdq ltR d4 (mid + 1) b l1 true true) a mid l1 (decide (b - mid ≥ (b - a) / 8)) ap) else d4) := by
  subst e1; subst e2; subst e3; subst e4; subst e5; subst e6; subst e7
  conv => lhs; unfold Sort.pdq
  rw [if_neg h12, if_neg h0]
  simp only [dite_eq_ite]
theorem hint_dec (h : Sort.Hint) : (hintN h = 2) ↔ h = .decreasing := by cases h <;> simp [hintN]
theorem hint_inc (h : Sort.Hint) : (hintN h = 1) ↔ h = .increasing := by cases h <;> simp [hintN]
theorem perm_brk (d : Array Rg) {a b : Nat} (hab : a ≤ b) (hb : b ≤ d.size) (wb : Bool) : Sort.PermIn a b d (if !wb then Sort.breakPatterns d a b else d) := Sort.step_break d hab hb _
theorem pdq_core (n : Nat) (rec : ∀ (d : Array Rg) (a b limit ver : Nat), b - a < n → a ≤ b → b ≤ d.size → d.size < 65536 → limit < 100 → Sort.Below ltR a b d →
    Does Tryz.prog G 155 [.sl 0 ver, .int .i64 a, .int .i64 b, .int .i64 limit, cmpV] [some (rgs ver d)] fun ae O => ae = .ret (.tuple []) ∧ O = [some (rgs ver (Sort.pdq ltR d a b limit true true))])
    (d : Array Rg) (a b limit ver : Nat) (hn : b - a ≤ n) (hab : a ≤ b) (hb : b ≤ d.size) (hs : d.size < 65536) (hl : limit < 100) (hB : Sort.Below ltR a b d) :
    Does Tryz.prog G 155 [.sl 0 ver, .int .i64 a, .int .i64 b, .int .i64 limit, cmpV] [some (rgs ver d)] fun ae O => ae = .ret (.tuple []) ∧ O = [some (rgs ver (Sort.pdq ltR d a b limit true true))] := by
  obtain ⟨R, hR⟩ : ∃ R, R = Sort.pdq ltR d a b limit true true := ⟨_, rfl⟩
  rw [← hR]
  refine Does.bodyA tab Tryz.func155 rfl rfl ?_
  refine AC.step tab ?_
  refine gos ?_
  refine AC.step tab ?_
  refine gos ?_
  refine AC.blk ?_
  refine AC.loopA (fun f e h => ∃ (a b lim : Nat) (wb wp : Bool) (d' : Array Rg), b - a < f ∧ b - a ≤ n ∧ a ≤ b ∧ b ≤ d'.size ∧ d'.size = d.size ∧ lim < 100 ∧ Sort.Below ltR a b d' ∧ R = Sort.pdq ltR d' a b lim wb wp ∧
      e = [.sl 0 ver, .int .i64 a, .int .i64 b, .int .i64 lim, cmpV, .any, .any, .any, .any, .any, .bool wb, .bool wp] ++ List.replicate 136 .any ∧ h = [some (rgs ver d')])
    (n + 1) ⟨_, fgts, a, b, limit, true, true, d, by omega, hn, hab, hb, rfl, hl, hB, hR, rfl, rfl⟩ ?_
  clear hR hB hl hb hab hn
  rintro f e h ⟨a, b, lim, wb, wp, d', hf, hn, hab, hb, hsd, hl, hB, hR, rfl, rfl⟩
  refine AC.blk ?_
  refine AC.step tab ?_
  refine gos ?_
  obtain ⟨L, hL⟩ : ∃ L, L = b - a := ⟨_, rfl⟩
  simp only [show (b : Int) - (a : Int) = (L : Int) by omega]
  refine AC.step tab ?_
  refine gos ?_
  by_cases h12 : b - a ≤ 12
  · refine CmpW.T ?_
    refine gos ?_
    refine CallW.meth 0 (insR_does d' a b ver hb (by omega) (by omega)) rfl rfl rfl (rgs_closed _ _) (rgs_closed _ _) rfl ?_
    refine gos ?_
    refine RetW.plain (by simp) ?_
    unfold Sort.pdq at hR
    rw [if_pos h12] at hR
    rw [hR]
    exact ⟨rfl, rfl⟩
  refine CmpW.N ?_
  refine gos ?_
  refine AC.step tab ?_
  refine gos ?_
  by_cases h0 : lim = 0
  · refine CmpW.T ?_
    refine gos ?_
    refine CallW.meth 0 (heaR_does d' a b ver hab hb (by omega)) rfl rfl rfl (rgs_closed _ _) (rgs_closed _ _) rfl ?_
    refine gos ?_
    refine RetW.plain (by simp) ?_
    unfold Sort.pdq at hR
    rw [if_neg h12, if_pos h0] at hR
    rw [hR]
    exact ⟨rfl, rfl⟩
  refine CmpW.N ?_
  refine gos ?_
  obtain ⟨d1, e1⟩ : ∃ d1, d1 = if !wb then Sort.breakPatterns d' a b else d' := ⟨_, rfl⟩
  obtain ⟨l1, e2⟩ : ∃ l1, l1 = if !wb then lim - 1 else lim := ⟨_, rfl⟩
  have s1 : Sort.PermIn a b d' d1 := by rw [e1]; exact perm_brk d' hab hb wb
  have b1 : b ≤ d1.size := by rw [s1.1]; exact hb
  have B1 : Sort.Below ltR a b d1 := hB.perm hb s1
  have hl1 : l1 < 100 := by rw [e2]; split <;> omega
  refine AC.cutF tab (fun e h => e = [.sl 0 ver, .int .i64 a, .int .i64 b, .int .i64 l1, cmpV, .any, .any, .any, .any, .any, .bool wb, .bool wp, .int .i64 L] ++ List.replicate 135 .any ∧ h = [some (rgs ver d1)]) ?_ ?_
  · cases wb with
    | true =>
      have e1' : d1 = d' := e1
      have e2' : l1 = lim := e2
      subst e1'
      subst e2'
      refine gos ?_
      exact ⟨_, 1, fgts, rfl, rfl⟩
    | false =>
      have e1' : d1 = Sort.breakPatterns d' a b := e1
      have e2' : l1 = lim - 1 := e2
      refine gos ?_
      refine CallW.meth 0 (brkR_does d' a b ver hab hb (by omega)) rfl rfl rfl (rgs_closed _ _) (rgs_closed _ _) rfl ?_
      refine gos ?_
      rw [← e1', show (lim : Int) - 1 = (l1 : Int) by omega]
      exact ⟨_, 1, fgts, rfl, rfl⟩
  rintro e h ⟨rfl, rfl⟩
  refine AC.step tab ?_
  refine gos ?_
  refine CallW.meth 0 (choR_does d1 a b ver (by omega) b1 (by rw [s1.1]; omega)) rfl rfl rfl (rgs_closed _ _) (rgs_closed _ _) rfl ?_
  have hc0 := Sort.choosePivot_holds ltR d1 a b (by omega)
  obtain ⟨c, e3⟩ : ∃ c, c = Sort.choosePivot ltR d1 a b := ⟨_, rfl⟩
  rw [← e3] at hc0 ⊢
  refine gos ?_
  obtain ⟨d2, e4⟩ : ∃ d2, d2 = if c.2 = .decreasing then Sort.reverseRange d1 a b else d1 := ⟨_, rfl⟩
  obtain ⟨pv, e5⟩ : ∃ pv, pv = if c.2 = .decreasing then (b - 1) - (c.1 - a) else c.1 := ⟨_, rfl⟩
  obtain ⟨hint, e6⟩ : ∃ hint, hint = if c.2 = .decreasing then Sort.Hint.increasing else c.2 := ⟨_, rfl⟩
  have s2 : Sort.PermIn a b d1 d2 := by rw [e4]; exact Sort.step_reverse Sort.reverseRange_holds d1 hab b1 _
  have b2 : b ≤ d2.size := by rw [s2.1]; exact b1
  have B2 : Sort.Below ltR a b d2 := B1.perm b1 s2
  have hpv : a ≤ pv ∧ pv < b := by rw [e5]; exact Sort.pivot_range hc0.1 hc0.2 _
  refine AC.cutF tab (fun e h => e = [.sl 0 ver, .int .i64 a, .int .i64 b, .int .i64 l1, cmpV, .any, .any, .any, .any, .any, .bool wb, .bool wp, .int .i64 L, .int .i64 pv, .int .i64 (hintN hint)] ++ List.replicate 133 .any ∧ h = [some (rgs ver d2)]) ?_ ?_
  · refine gos ?_
    by_cases hd : c.2 = .decreasing
    · rw [if_pos hd] at e4 e5 e6
      subst e6
      refine CmpW.t (by simpa using (hint_dec _).2 hd) ?_
      refine gos ?_
      refine CallW.meth 0 (revR_does d1 a b ver b1 (by rw [s1.1]; omega) (by omega) hab) rfl rfl rfl (rgs_closed _ _) (rgs_closed _ _) rfl ?_
      rw [← e4]
      refine gos ?_
      rw [show (b : Int) - 1 - ((c.1 : Int) - (a : Int)) = (pv : Int) by omega]
      exact ⟨_, 1, fgts, rfl, rfl⟩
    · rw [if_neg hd] at e4 e5 e6
      subst e4
      subst e5
      subst e6
      refine CmpW.f (by simpa using fun h => hd ((hint_dec _).1 h)) ?_
      refine gos ?_
      exact ⟨_, 1, fgts, rfl, rfl⟩
  rintro e h ⟨rfl, rfl⟩
  obtain ⟨pi, e7⟩ : ∃ pi, pi = if wb && wp && hint = .increasing then Sort.partialInsertionSort ltR d2 a b else (d2, false) := ⟨_, rfl⟩
  have hst := pdq_step h12 h0 e1 e2 e3 e4 e5 e6 e7
  rw [← hR] at hst
  have s3 : Sort.PermIn a b d2 pi.1 := by rw [e7]; exact (Sort.step_partial Sort.partialInsertionSort_holds swoR d2 (a := a) (b := b) (by omega) b2 B2 _).1
  have b3 : b ≤ pi.1.size := by rw [s3.1]; exact b2
  have B3 : Sort.Below ltR a b pi.1 := B2.perm b2 s3
  have hs3 : pi.1.size = d.size := by rw [s3.1, s2.1, s1.1]; exact hsd
  refine AC.cutF tab (fun e h => pi.2 = false ∧ e = [.sl 0 ver, .int .i64 a, .int .i64 b, .int .i64 l1, cmpV, .any, .any, .any, .any, .any, .bool wb, .bool wp, .int .i64 L, .int .i64 pv] ++ List.replicate 134 .any ∧ h = [some (rgs ver pi.1)]) ?_ ?_
  · cases wb with
    | false =>
      have e7' : pi = (d2, false) := e7
      subst e7'
      refine gos ?_
      exact ⟨_, 1, fgts, rfl, rfl, rfl⟩
    | true =>
    cases wp with
    | false =>
      have e7' : pi = (d2, false) := e7
      subst e7'
      refine gos ?_
      exact ⟨_, 1, fgts, rfl, rfl, rfl⟩
    | true =>
    by_cases hi : hint = .increasing
    · rw [if_pos (by simp [hi])] at e7
      refine gos ?_
      refine CmpW.t (by simpa using (hint_inc _).2 hi) ?_
      refine gos ?_
      refine CallW.meth 0 (pisR_does d2 a b ver (by omega) b2 (by rw [s2.1, s1.1]; omega)) rfl rfl rfl (rgs_closed _ _) (rgs_closed _ _) rfl ?_
      rw [← e7]
      cases hp : pi.2 with
      | true =>
        refine gos ?_
        refine RetW.plain (by simp) ?_
        rw [hp, if_pos rfl] at hst
        rw [hst]
        exact ⟨rfl, rfl⟩
      | false =>
        refine gos ?_
        exact ⟨_, 1, fgts, rfl, rfl, rfl⟩
    · rw [if_neg (by simp [hi])] at e7
      refine gos ?_
      refine CmpW.f (by simpa using fun h => hi ((hint_inc _).1 h)) ?_
      refine gos ?_
      subst e7
      exact ⟨_, 1, fgts, rfl, rfl, rfl⟩
  rintro e h ⟨hp, rfl, rfl⟩
  rw [hp] at hst
  simp only [Bool.false_eq_true, if_false] at hst
  have hfin : ∀ (mid : Nat) (d4 : Array Rg), (decide (a > 0) && !ltR pi.1[a - 1]! pi.1[pv]!) = true → Sort.partitionEqual ltR pi.1 a b pv = (mid, d4) → a < mid ∧ mid ≤ b ∧ d4.size = d.size ∧ Sort.Below ltR mid b d4 ∧ R = Sort.pdq ltR d4 mid b l1 wb wp := by
    intro mid d4 hc hx
    have hc2 : 0 < a ∧ ltR pi.1[a - 1]! pi.1[pv]! = false := by simpa using hc
    obtain ⟨g1, g2, g3, g4, _⟩ := Sort.round_eq swoR (Sort.partitionEqual_holds ltR) hc2.1 hpv.1 hpv.2 b3 B3 hc2.2 hx
    refine ⟨g1, g2, by rw [g3]; exact hs3, g4, ?_⟩
    rw [hst, if_pos hc, hx]
    simp only
    rw [if_pos ⟨g1, g2⟩]
  refine AC.cutF tab (fun e h => (decide (a > 0) && !ltR pi.1[a - 1]! pi.1[pv]!) = false ∧ e = [.sl 0 ver, .int .i64 a, .int .i64 b, .int .i64 l1, cmpV, .any, .any, .any, .any, .any, .bool wb, .bool wp, .int .i64 L, .int .i64 pv] ++ List.replicate 134 .any ∧ h = [some (rgs ver pi.1)]) ?_ ?_
  · refine gos ?_
    refine DrawW.L ?_
    (repeat (first | refine gof ?_ | refine fun (vv : Nat) => ?_))
    by_cases ha0 : a > 0
    case neg =>
      refine CmpW.N ?_
      (repeat (first | refine gof ?_ | refine fun (vv : Nat) => ?_))
      exact ⟨_, 1, fgts, by simp [ha0], rfl, rfl⟩
    refine CmpW.T ?_
    (repeat (first | refine gof ?_ | refine fun (vv : Nat) => ?_))
    simp only [show (a : Int) - 1 = ((a - 1 : Nat) : Int) by omega]
    refine And.intro (And.intro (by omega) (by first | (rw [rgs_len]; omega) | (simp only [List.length_set]; rw [rgs_len]; omega))) ?_
    (repeat (first | refine gof ?_ | refine fun (vv : Nat) => ?_))
    refine ⟨encG pi.1[a - 1]!, rgs_get (by omega), ?_⟩
    (repeat (first | refine gof ?_ | refine fun (vv : Nat) => ?_))
    refine And.intro (And.intro (by omega) (by first | (rw [rgs_len]; omega) | (simp only [List.length_set]; rw [rgs_len]; omega))) ?_
    (repeat (first | refine gof ?_ | refine fun (vv : Nat) => ?_))
    refine ⟨encG pi.1[pv]!, rgs_get (by omega), ?_⟩
    (repeat (first | refine gof ?_ | refine fun (vv : Nat) => ?_))
    refine CallW.pure (cmpR_does pi.1[a - 1]! pi.1[pv]!) rfl rfl ?_
    (repeat (first | refine gof ?_ | refine fun (vv : Nat) => ?_))
    cases hc : ltR pi.1[a - 1]! pi.1[pv]! with
    | true =>
      refine CmpW.t (ltR_t hc) ?_
      refine gos ?_
      exact ⟨_, 1, fgts, by simp [hc], rfl, rfl⟩
    | false =>
      refine CmpW.f (ltR_f hc) ?_
      refine gos ?_
      refine CallW.meth 0 (pqlR_does pi.1 a b pv ver (by omega) b3 (by omega) (by omega)) rfl rfl rfl (rgs_closed _ _) (rgs_closed _ _) rfl ?_
      obtain ⟨X, hx⟩ : ∃ X, X = Sort.partitionEqual ltR pi.1 a b pv := ⟨_, rfl⟩
      rw [← hx]
      obtain ⟨mid, d4⟩ := X
      obtain ⟨g1, g2, g3, g4, g5⟩ := hfin mid d4 (by simp [ha0, hc]) hx.symm
      refine gos ?_
      exact ⟨f - 1, _, 1, by omega, fgts, mid, b, l1, wb, wp, d4, by omega, by omega, g2, by omega, g3, hl1, g4, g5, rfl, rfl⟩
  rintro e h ⟨hc, rfl, rfl⟩
  rw [hc] at hst
  simp only [Bool.false_eq_true, if_false] at hst
  refine AC.step tab ?_
  refine gos ?_
  refine CallW.meth 0 (parR_does pi.1 a b pv ver (by omega) b3 (by omega) (by omega)) rfl rfl rfl (rgs_closed _ _) (rgs_closed _ _) rfl ?_
  obtain ⟨X, hx⟩ : ∃ X, X = Sort.partition ltR pi.1 a b pv := ⟨_, rfl⟩
  rw [← hx]
  obtain ⟨mid, ap, d4⟩ := X
  obtain ⟨g1, g2, g3, g4, g5, g6, g7⟩ := Sort.round_part swoR (Sort.partition_holds ltR) hpv.1 hpv.2 b3 B3 hx.symm
  rw [← hx] at hst
  simp only at hst
  rw [if_pos ⟨g1, g2⟩] at hst
  refine gos ?_
  refine AC.step tab ?_
  refine gos ?_
  refine AC.step tab ?_
  refine gos ?_
  refine AC.step tab ?_
  refine gos ?_
  refine And.intro (by decide) ?_
  refine gos ?_
  have q8 : (L : Int).tdiv 8 = ((L / 8 : Nat) : Int) := rfl
  simp only [q8, show (mid : Int) - (a : Int) = ((mid - a : Nat) : Int) by omega, show (b : Int) - (mid : Int) = ((b - mid : Nat) : Int) by omega]
  have w1 : decide (((mid - a : Nat) : Int) ≥ ((L / 8 : Nat) : Int)) = decide (mid - a ≥ (b - a) / 8) := by rw [hL]; exact decide_eq_decide.2 (by omega)
  have w2 : decide (((b - mid : Nat) : Int) ≥ ((L / 8 : Nat) : Int)) = decide (b - mid ≥ (b - a) / 8) := by rw [hL]; exact decide_eq_decide.2 (by omega)
  refine AC.step tab ?_
  refine gos ?_
  by_cases hlt : mid - a < b - mid
  · rw [if_pos hlt] at hst
    refine CmpW.T ?_
    refine gos ?_
    refine AC.go tab ?_
    refine gos ?_
    refine CmpW.s ?_
    rw [w1]
    refine gos ?_
    refine CallW.meth 0 (rec d4 a mid l1 ver (by omega) g1 (by omega) (by omega) hl1 g4) rfl rfl rfl (rgs_closed _ _) (rgs_closed _ _) rfl ?_
    refine gos ?_
    rw [show (mid : Int) + 1 = ((mid + 1 : Nat) : Int) by omega]
    have p := Sort.pdq_sorts ltR swoR d4 a mid l1 true true g1 (by omega) g4
    exact ⟨f - 1, _, 1, by omega, fgts, mid + 1, b, l1, _, ap, _, by omega, by omega, by omega, by rw [p.1.1]; omega, by rw [p.1.1, g3]; exact hs3, hl1, (g6 _ p.1 p.2).1, hst, rfl, rfl⟩
  · rw [if_neg hlt] at hst
    refine CmpW.N ?_
    refine gos ?_
    refine AC.go tab ?_
    refine gos ?_
    refine CmpW.s ?_
    rw [w2]
    refine gos ?_
    rw [show (mid : Int) + 1 = ((mid + 1 : Nat) : Int) by omega]
    refine CallW.meth 0 (rec d4 (mid + 1) b l1 ver (by omega) (by omega) (by omega) (by omega) hl1 g5) rfl rfl rfl (rgs_closed _ _) (rgs_closed _ _) rfl ?_
    refine gos ?_
    have p := Sort.pdq_sorts ltR swoR d4 (mid + 1) b l1 true true (by omega) (by omega) g5
    exact ⟨f - 1, _, 1, by omega, fgts, a, mid, l1, _, ap, _, by omega, by omega, by omega, by rw [p.1.1]; omega, by rw [p.1.1, g3]; exact hs3, hl1, (g7 _ p.1 p.2).1, hst, rfl, rfl⟩
theorem pdqR_does (d : Array Rg) (a b limit ver : Nat) (hab : a ≤ b) (hb : b ≤ d.size) (hs : d.size < 65536) (hl : limit < 100) (hB : Sort.Below ltR a b d) :
    Does Tryz.prog G 155 [.sl 0 ver, .int .i64 a, .int .i64 b, .int .i64 limit, cmpV] [some (rgs ver d)] fun ae O => ae = .ret (.tuple []) ∧ O = [some (rgs ver (Sort.pdq ltR d a b limit true true))] := by
  have key : ∀ (n : Nat) (d : Array Rg) (a b limit ver : Nat), b - a < n → a ≤ b → b ≤ d.size → d.size < 65536 → limit < 100 → Sort.Below ltR a b d →
      Does Tryz.prog G 155 [.sl 0 ver, .int .i64 a, .int .i64 b, .int .i64 limit, cmpV] [some (rgs ver d)] fun ae O => ae = .ret (.tuple []) ∧ O = [some (rgs ver (Sort.pdq ltR d a b limit true true))] := by
    intro n
    induction n with
    | zero => intro d a b limit ver h; omega
    | succ n ih =>
      intro d a b limit ver h h1 h2 h3 h4 h5
      exact pdq_core n ih d a b limit ver (by omega) h1 h2 h3 h4 h5
  exact key (b - a + 1) d a b limit ver (by omega) hab hb hs hl hB
def sortRg (l : List Rg) : List Rg := (Sort.pdq ltR l.toArray 0 l.length (Sort.bitsLen l.length) true true).toList
theorem sortRg_facts (l : List Rg) : (sortRg l).Perm l ∧ Sort.SortedIn ltR 0 l.length (sortRg l).toArray := by
  have p := Sort.pdq_sorts ltR swoR l.toArray 0 l.length (Sort.bitsLen l.length) true true (Nat.zero_le _) (by simp) (Or.inl rfl)
  refine ⟨?_, ?_⟩
  · have h := p.1.2.2
    have hs := p.1.1
    have e1 : ∀ x : Array Rg, x.size = l.length → x.extract 0 l.length = x := fun x hx => by rw [← hx]; simp
    rw [e1 _ (by rw [hs]; simp), e1 _ (by simp)] at h
    exact h
  · have h := p.2
    unfold sortRg
    simpa using h
theorem sortRg_length (l : List Rg) : (sortRg l).length = l.length := (sortRg_facts l).1.length_eq
theorem lenU_ok (n : Nat) (h : n < 65536) : Sort.bitsLen n ≤ 16 := bsl_le n 16 h
theorem sortR_does (l : List Rg) (ver : Nat) (hs : l.length < 65536) :
    Does Tryz.prog G 68 [.sl 0 ver, cmpV] [some (rgs ver l.toArray)] fun ae O => ae = .ret (.tuple []) ∧ O = [some (rgs ver (sortRg l).toArray)] := by
  refine Does.body tab Tryz.func68 rfl rfl ?_
  refine gos ?_
  have e1 : (rgs ver l.toArray).es.length = l.length := by simp
  rw [e1]
  rw [show IntKind.u64.wrap (l.length : Int) = l.length by rw [IntKind.wrap_u64]; omega]
  refine gos ?_
  refine CallW.pure (lenU_does l.length hs) rfl rfl ?_
  refine gos ?_
  have h16 := lenU_ok l.length hs
  refine CallW.meth 0 (pdqR_does l.toArray 0 l.length (Sort.bitsLen l.length) ver (by omega) (by simp) (by simpa using hs) (by omega) (Or.inl rfl)) rfl rfl rfl (rgs_closed _ _) (rgs_closed _ _) rfl ?_
  refine gos ?_
  refine RetW.plain (by simp) ?_
  exact ⟨rfl, by unfold sortRg; simp⟩
end Go.Proofs.YtpbjjhpihhnomaaGreatDoor
