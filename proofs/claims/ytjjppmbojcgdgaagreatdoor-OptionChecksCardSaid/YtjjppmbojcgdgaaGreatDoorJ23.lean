/- A table's checks: the first reason. -/
import Derived.Test.YtjjppmbojcgdgaaGreatDoorJ21
import Derived.Test.YtjjppmbojcgdgaaGreatDoorAbsC
import Derived.Test.YtjjppmbojcgdgaaGreatDoorJ20
import Derived.Test.YtjjppmbojcgdgaaGreatDoorJ22
set_option linter.unusedVariables false
set_option linter.unusedSimpArgs false
set_option maxRecDepth 100000
set_option maxHeartbeats 4000000

namespace Go.Proofs.YtjjppmbojcgdgaaGreatDoor
open Go Go.Abs
section
attribute [local irreducible] DrawW CallW RetW AC Does CmpW
theorem encRuls_closed : ∀ rs : List Rul, closedLL (rs.map encRul) = true
  | [] => rfl
  | r :: rs => by simp [closedLL, encRul, closedL, closed]; exact encRuls_closed rs
def rusL (s : List UInt8) : Nat → Nat → Nat → Fnd → List Rul → Except (Int × Nat) (List Rul × Nat × Nat × Fnd)
  | 0, a, n, F, xs => .ok (xs, a, n, F)
  | f + 1, a, n, F, xs =>
    if pk s a = 0 then .ok (xs, bl s a, n, F)
    else match rulF s (bl s a) n F with
      | .error r => .error r
      | .ok (x, b, n', F') => if pre s (bl s b) [59] then rusL s f (bl s b + 1) n' F' (xs ++ [x]) else .ok (xs ++ [x], bl s b, n', F')
def rus0 (s : List UInt8) : Except (Int × Nat) (List Rul × Nat × Nat × Fnd) := rusL s (s.length + 1) 0 0 ⟨false, false, false, false, false, false⟩ []
def rusF (s : List UInt8) : Except (Int × Nat) (List Rul) := match rus0 s with
  | .error r => .error r
  | .ok (xs, b, _, _) => if pk s b ≠ 0 ∨ bl s b < s.length then .error (1, bl s b) else .ok xs
theorem rules_does (m : Int) (s : List UInt8) (hs : s.length < 100000) (ver : Nat) :
    Does Tryz.prog (GL m) 116 [.ptr 0 ver 0 0] [some (rro ver s 0 0 ⟨false, false, false, false, false, false⟩)] fun ae O => match rusF s with
      | .error r => ae = .panic (rfault r)
      | .ok xs => ae = .ret (.fsl (xs.map encRul)) ∧ ∃ o, O = [some o] := by
  refine Does.bodyA tab Tryz.func116 rfl rfl ?_
  refine AC.step tab ?_
  refine gos ?_
  refine AC.step tab ?_
  refine gos ?_
  refine AC.own 3 215 3 rfl (by omega) fun v1 => ?_
  refine AC.cutF tab (fun e h => ∃ (xs : List Rul) (b n vw : Nat) (F : Fnd), rus0 s = .ok (xs, b, n, F) ∧ b ≤ s.length ∧ e = [.ptr 0 ver 0 0, .any, .any, .sl 1 vw] ++ List.replicate 32 .any ∧
    h = [some (rro ver s b n F), some ⟨vw, 215, 3, xs.map encRul⟩]) ?_ ?_
  · refine AC.loopC tab (fun f e h => ∃ (xs : List Rul) (b n vw : Nat) (F : Fnd), s.length < f + b ∧ b ≤ s.length ∧ n ≤ 200 ∧ xs.length ≤ b ∧ rus0 s = rusL s f b n F xs ∧
      e = [.ptr 0 ver 0 0, .any, .any, .sl 1 vw] ++ List.replicate 32 .any ∧ h = [some (rro ver s b n F), some ⟨vw, 215, 3, xs.map encRul⟩]) (s.length + 1) ⟨_, fgts, [], 0, 0, v1, _, by omega, by omega, by omega, by simp, rfl, rfl, rfl⟩ ?_
    rintro f e h ⟨xs, b, n, vw, F, hf, hb, hn, hxl, hal, rfl, rfl⟩
    obtain ⟨f, rfl⟩ : ∃ q, f = q + 1 := ⟨f - 1, by omega⟩
    have hq1 := bl_le hb
    refine gos ?_
    refine CallW.meth 0 (peek_does s b n F hb hs ver) rfl rfl rfl rfl rfl rfl ?_
    refine gos ?_
    by_cases hp : pk s b = 0
    · simp only [rusL, hp, if_true] at hal
      refine CmpW.f (by simpa using hp) ?_
      refine gos ?_
      exact ⟨_, 2, fgts, xs, bl s b, n, vw, F, hal, hq1.2, rfl, rfl⟩
    · refine CmpW.t (by simp; omega) ?_
      simp only [rusL, if_neg hp] at hal
      refine gos ?_
      have r1 := rule_does m s (bl s b) n F hq1.2 hs hn ver
      cases hR : rulF s (bl s b) n F with
      | error r =>
        rw [hR] at r1 hal
        simp only at r1 hal
        refine CallW.pan1 0 r1 rfl rfl rfl rfl rfl (fun s' hl => ?_)
        refine gos ?_
        exact ⟨by rw [hl]; simp, by simp only [rusF, hal]⟩
      | ok q =>
        obtain ⟨x, c, n', F'⟩ := q
        rw [hR] at r1 hal
        simp only at r1 hal
        have h1 := rulF_le hq1.2 hn hR
        have q2 := bl_le h1.2.1
        refine CallW.meth 0 r1 rfl rfl rfl rfl rfl rfl ?_
        (repeat (first | refine gof ?_ | refine fun (vv : Nat) => ?_))
        cases hz : pre s (bl s c) [59] with
        | true =>
          have hle3 := pre_le hz (by simp)
          simp only [List.length_cons, List.length_nil] at hle3
          simp only [hz, if_true] at hal
          refine CallW.meth 0 (take_t (bl s c + 1) hz rfl n' F' h1.2.1 hs ver) rfl rfl rfl rfl rfl rfl ?_
          (repeat (first | refine gof ?_ | refine fun (vv : Nat) => ?_))
          refine ⟨f, _, 2, by omega, fgts, xs ++ [x], bl s c + 1, n', vv, F', by omega, by omega, h1.2.2, by simp; omega, hal, rfl, ?_⟩
          rw [List.map_append]; rfl
        | false =>
          simp only [hz, Bool.false_eq_true, if_false] at hal
          refine CallW.meth 0 (take_f hz n' F' h1.2.1 hs ver) rfl rfl rfl rfl rfl rfl ?_
          (repeat (first | refine gof ?_ | refine fun (vv : Nat) => ?_))
          refine ⟨_, 2, fgts, xs ++ [x], bl s c, n', vv, F', hal, q2.2, rfl, ?_⟩
          rw [List.map_append]; rfl
  rintro e h ⟨xs, b, n, vw, F, hal, hb, rfl, rfl⟩
  have hq1 := bl_le hb
  refine AC.step tab ?_
  refine gos ?_
  refine DrawW.L ?_
  refine gos ?_
  refine CallW.meth 0 (peek_does s b n F hb hs ver) rfl rfl rfl rfl rfl rfl ?_
  refine gos ?_
  by_cases hp : pk s b = 0
  · refine CmpW.f (by simpa using hp) ?_
    refine gos ?_
    by_cases hlt : bl s b < s.length
    · refine CmpW.T ?_
      refine gos ?_
      refine CallW.of0 (rfail_does _ _) rfl ?_
      rintro ae ⟨rfl, _⟩
      refine ⟨rfl, ?_⟩
      refine gos ?_
      exact ⟨by simp, by simp only [rusF, hal]; rw [if_pos (.inr hlt)]⟩
    · refine CmpW.N ?_
      refine gos ?_
      refine AC.go tab ?_
      refine gos ?_
      refine RetW.wk (by simp) ?_ (Wk.row (k := 0) (i := 1) rfl rfl rfl (encRuls_closed xs)) ?_
      · rfl
      · simp only [rusF, hal]
        rw [if_neg (by simp [hp]; omega)]
        exact ⟨rfl, _, rfl⟩
  · refine CmpW.t (by simp; omega) ?_
    refine gos ?_
    refine CallW.of0 (rfail_does _ _) rfl ?_
    rintro ae ⟨rfl, _⟩
    refine ⟨rfl, ?_⟩
    refine gos ?_
    exact ⟨by simp, by simp only [rusF, hal]; rw [if_pos (.inl hp)]⟩
end
section
attribute [local irreducible] DrawW CallW RetW AC Does CmpW BD CloW
def rulP (s : List UInt8) : List Rul × Int × Nat :=
  if 4000 < s.length then ([], 4, 0) else match rusF s with
    | .ok xs => (xs, 0, 0)
    | .error r => ([], r.1, r.2)
def rulV (r : List Rul × Int × Nat) : AV := .tuple [.fsl (r.1.map encRul), .int .i64 r.2.1, .int .i64 r.2.2]
theorem RParse_does {m : Int} (s : List UInt8) (hs : s.length < 100000) : Does Tryz.prog (GL m) 36 [.str s] [] fun ae _ => ae = .ret (rulV (rulP s)) := by
  refine Does.ofBD Tryz.func36 rfl rfl ?_
  refine BD.seq tab ?_
  (repeat (first | refine gof ?_ | refine fun (vv : Nat) => ?_))
  refine BD.seq tab ?_
  refine gos ?_
  by_cases h1 : 4000 < s.length
  · refine CmpW.T ?_
    refine gos ?_
    refine RetW.wk (r' := rulV ([], 4, 0)) (by simp) ?_ (Wk.tuple (Wk.nil (k := 0) rfl)) ?_
    · rfl
    · simp only [rulP, if_pos h1]
  · refine CmpW.N ?_
    refine gos ?_
    refine BD.defer tab (d := 8) Tryz.func115 rfl rfl rfl rfl rfl rfl rfl rfl (by simp) ?_
    (repeat (first | refine gof ?_ | refine fun (vv : Nat) => ?_))
    refine CallW.ofN [3] (as' := [.ptr 0 vv 0 0]) (rules_does m s hs vv) ?_ rfl rfl ?_
    · exact hands_closed (O := [rro vv s 0 0 ⟨false, false, false, false, false, false⟩]) (by simp) rfl (fun k j hk => by
        match k, hk with
        | 0, hk => have : 3 = j := by simpa using hk
                   subst this; rfl
        | k + 1, hk => simp at hk) (by simp [rro, closedLL, closedL, closed])
    intro ae O hA hl
    obtain ⟨o, rfl⟩ : ∃ o, O = [o] := by
      match O, hl with
      | [o], _ => exact ⟨o, rfl⟩
    have hp : rulP s = match rusF s with
      | .ok xs => (xs, 0, 0)
      | .error r => ([], r.1, r.2) := by simp only [rulP, if_neg h1]
    cases hE : rusF s with
    | error r =>
      rw [hE] at hA hp
      subst hA
      simp only [putR, ren, renL]
      refine CloW.of tab Tryz.func115 rfl rfl rfl (fun _ => rfl) rfl rfl rfl ?_
      (repeat (first | refine gof ?_ | refine fun (vv : Nat) => ?_))
      refine DrawW.P (.take 0 (.take 2 (.fork (.cons 1 (.fork (.cons 3 (.take 4 (.take 5 (.take 6 .done))) (.cons 4 (.fork (.cons 3 (.take 5 (.take 6 .done)) (.cons 5 (.take 3 (.take 6 .done)) .nil))) .nil))) (.cons 3 (.fork (.cons 1 (.take 4 (.take 5 (.take 6 .done))) (.cons 4 (.take 1 (.take 5 (.take 6 .done))) .nil))) (.cons 4 (.take 1 (.fork (.cons 3 (.take 5 (.take 6 .done)) (.cons 5 (.take 3 (.take 6 .done)) .nil)))) .nil)))))) ?_
      (repeat' (first | exact trivial | refine gon ?_ | refine And.intro ?_ ?_))
      all_goals
        refine RetW.wk (r' := rulV ([], r.1, r.2)) (by simp) ?_ (Wk.tuple (Wk.nil (k := 0) rfl)) ?_
        · rfl
        · rw [hp]
    | ok xs =>
      rw [hE] at hA hp
      obtain ⟨rfl, _⟩ := hA
      simp only [putR]
      (repeat (first | refine gof ?_ | refine fun (vv : Nat) => ?_))
      refine CloW.of tab Tryz.func115 rfl rfl rfl (fun _ => rfl) rfl rfl rfl ?_
      (repeat (first | refine gof ?_ | refine fun (vv : Nat) => ?_))
      refine RetW.plain (by simp) ?_
      rw [hp]
      rfl
end
end Go.Proofs.YtjjppmbojcgdgaaGreatDoor

namespace Go.Proofs.YtjjppmbojcgdgaaGreatDoor
open Go Go.Abs
attribute [local irreducible] DrawW CallW RetW AC Does CmpW
def nameK (l : List TTxt) (i : Nat) : Bool := match l[i]? with
  | some x => nameF x.text
  | none => false
def plcK (n : Int) (l : List TTxt) (i : Nat) : Bool := match l[i]? with
  | some x => plcOk n x.text
  | none => false
def txtFits (l : List TTxt) : Prop := l.length < 50000 ∧ ∀ x ∈ l, x.text.length < 50000
theorem catsName_does (m : Int) (l : List TTxt) (h : txtFits l) : Does Tryz.prog (GL m) 100 [txtL l, .func (.func 83) [] []] [] fun ae _ => ae = .ret (.bool (catsF l (nameK l))) :=
  cats_does l (by have := h.1; omega) 83 [] rfl (nameK l) fun i x hx => by
    have e1 : nameK l i = nameF x.text := by simp [nameK, hx]
    have h2 := h.2 x (List.mem_of_getElem? hx)
    rw [e1]
    exact vname_does m x.text (by omega)
theorem catsPlc_does (m : Int) (n : Int) (hn : -9223372036854775808 ≤ n ∧ n ≤ 9223372036854775807) (l : List TTxt) (h : txtFits l) : Does Tryz.prog (GL m) 100 [txtL l, plcV n] [] fun ae _ => ae = .ret (.bool (catsF l (plcK n l))) :=
  cats_does l (by have := h.1; omega) 185 [.fptr [.int .i64 n]] rfl (plcK n l) fun i x hx => by
    have e1 : plcK n l i = plcOk n x.text := by simp [plcK, hx]
    have h2 := h.2 x (List.mem_of_getElem? hx)
    rw [e1]
    exact places1_does m x.text n (by omega) hn
def moneyB (c : TCur) : Bool := codeF c.code && (maybeF c.symbol && (maybeF c.narrow && ((decide (c.names = []) || catsF c.names (nameK c.names)) && (inF c.digits 0 20 && (inF c.cashDigits 0 20 && (inF c.inc 0 1000000000 && inF c.cashInc 0 1000000000))))))
structure TCur.fits (c : TCur) : Prop where
  code : c.code.length < 50000
  symbol : c.symbol.length < 50000
  narrow : c.narrow.length < 50000
  names : txtFits c.names
theorem money_does (m : Int) (c : TCur) (hc : c.fits) : Does Tryz.prog (GL m) 96 [.agg (encCu c)] [] fun ae _ => ae = .ret (.bool (moneyB c)) := by
  obtain ⟨hf1, hf2, hf3, hf4⟩ := hc
  have ll : (c.names.map encT).length = c.names.length := by simp
  refine Does.bodyA tab Tryz.func96 rfl rfl ?_
  refine AC.step tab ?_
  refine gos ?_
  intro v1
  refine gos ?_
  refine AC.wk (Wk.ptr (k := 1) (i := 0) rfl rfl rfl rfl rfl) ?_
  refine AC.go tab ?_
  refine gos ?_
  refine CallW.pure (code_does c.code (by omega)) rfl rfl ?_
  cases h0 : codeF c.code with
  | false =>
    refine gos ?_
    refine RetW.plain (by simp) ?_
    simp [moneyB, h0]
  | true =>
  refine gos ?_
  refine CallW.pure (maybe_does m c.symbol (by omega)) rfl rfl ?_
  cases h1 : maybeF c.symbol with
  | false =>
    refine gos ?_
    refine RetW.plain (by simp) ?_
    simp [moneyB, h0, h1]
  | true =>
  refine gos ?_
  refine CallW.pure (maybe_does m c.narrow (by omega)) rfl rfl ?_
  cases h2 : maybeF c.narrow with
  | false =>
    refine gos ?_
    refine RetW.plain (by simp) ?_
    simp [moneyB, h0, h1, h2]
  | true =>
  refine gos ?_
  rw [ll]
  by_cases h3 : c.names = []
  · refine CmpW.t (by simp [h3]) ?_
    refine gos ?_
    refine CallW.pure (vin_does c.digits 0 20) rfl rfl ?_
    cases h4 : inF c.digits 0 20 with
    | false =>
      refine gos ?_
      refine RetW.plain (by simp) ?_
      simp [moneyB, h0, h1, h2, h3, h4]
    | true =>
    refine gos ?_
    refine CallW.pure (vin_does c.cashDigits 0 20) rfl rfl ?_
    cases h5 : inF c.cashDigits 0 20 with
    | false =>
      refine gos ?_
      refine RetW.plain (by simp) ?_
      simp [moneyB, h0, h1, h2, h3, h4, h5]
    | true =>
    refine gos ?_
    refine CallW.pure (vin_does c.inc 0 1000000000) rfl rfl ?_
    cases h6 : inF c.inc 0 1000000000 with
    | false =>
      refine gos ?_
      refine RetW.plain (by simp) ?_
      simp [moneyB, h0, h1, h2, h3, h4, h5, h6]
    | true =>
    refine gos ?_
    refine CallW.pure (vin_does c.cashInc 0 1000000000) rfl rfl ?_
    refine gos ?_
    refine RetW.plain (by simp) ?_
    simp [moneyB, h0, h1, h2, h3, h4, h5, h6]
  · have h3' : ¬ c.names.length = 0 := fun h => h3 (List.eq_nil_of_length_eq_zero h)
    refine CmpW.f (by simp; exact h3) ?_
    refine gos ?_
    refine CallW.pure (catsName_does m c.names hf4) rfl rfl ?_
    cases h7 : catsF c.names (nameK c.names) with
    | false =>
      refine gos ?_
      refine RetW.plain (by simp) ?_
      simp [moneyB, h0, h1, h2, h3, h7]
    | true =>
    refine gos ?_
    refine CallW.pure (vin_does c.digits 0 20) rfl rfl ?_
    cases h4 : inF c.digits 0 20 with
    | false =>
      refine gos ?_
      refine RetW.plain (by simp) ?_
      simp [moneyB, h0, h1, h2, h3, h7, h4]
    | true =>
    refine gos ?_
    refine CallW.pure (vin_does c.cashDigits 0 20) rfl rfl ?_
    cases h5 : inF c.cashDigits 0 20 with
    | false =>
      refine gos ?_
      refine RetW.plain (by simp) ?_
      simp [moneyB, h0, h1, h2, h3, h7, h4, h5]
    | true =>
    refine gos ?_
    refine CallW.pure (vin_does c.inc 0 1000000000) rfl rfl ?_
    cases h6 : inF c.inc 0 1000000000 with
    | false =>
      refine gos ?_
      refine RetW.plain (by simp) ?_
      simp [moneyB, h0, h1, h2, h3, h7, h4, h5, h6]
    | true =>
    refine gos ?_
    refine CallW.pure (vin_does c.cashInc 0 1000000000) rfl rfl ?_
    refine gos ?_
    refine RetW.plain (by simp) ?_
    simp [moneyB, h0, h1, h2, h3, h7, h4, h5, h6]
def spcOk (s : List UInt8) : Bool := match clsF s with
  | .ok c => decide (c.length ≤ 60)
  | .error _ => false
def spcB (x : TSpc) : Bool := spcOk x.cur && (spcOk x.num && maybeF x.ins)
structure TSpc.fits (x : TSpc) : Prop where
  cur : x.cur.length < 50000
  num : x.num.length < 50000
  ins : x.ins.length < 50000
theorem spacing_does (m : Int) (x : TSpc) (hx : x.fits) : Does Tryz.prog (GL m) 104 [.agg x.cells] [] fun ae _ => ae = .ret (.bool (spcB x)) := by
  obtain ⟨h1, h2, h3⟩ := hx
  have dC := ClsParse_does m x.cur (by omega)
  have dN := ClsParse_does m x.num (by omega)
  refine Does.bodyA tab Tryz.func104 rfl rfl ?_
  refine AC.step tab ?_
  refine gos ?_
  intro v1
  refine gos ?_
  refine AC.wk (Wk.ptr (k := 1) (i := 0) rfl rfl rfl rfl rfl) ?_
  refine AC.cutF tab (fun e h => spcOk x.cur = true ∧ spcOk x.num = true ∧ e = [.any, .fptr x.cells] ++ List.replicate 33 .any ∧ h = []) ?_ ?_
  · (repeat (first | refine gof ?_ | refine fun (vv : Nat) => ?_))
    refine AC.rounds tab 3 ?_
    refine gos ?_
    refine And.intro (And.intro (of_decide_eq_true rfl) (of_decide_eq_true rfl)) ?_
    (repeat (first | refine gof ?_ | refine fun (vv : Nat) => ?_))
    cases hE : clsF x.cur with
    | error p =>
      rw [hE] at dC
      refine CallW.pure dC rfl rfl ?_
      (repeat (first | refine gof ?_ | refine fun (vv : Nat) => ?_))
      refine RetW.plain (by simp) ?_
      simp [spcB, spcOk, hE]
    | ok c =>
    rw [hE] at dC
    refine CallW.pure dC rfl rfl ?_
    (repeat (first | refine gof ?_ | refine fun (vv : Nat) => ?_))
    rw [rgEs_len]
    by_cases h60 : c.length ≤ 60
    case neg =>
      refine CmpW.T ?_
      refine gos ?_
      refine RetW.plain (by simp) ?_
      simp [spcB, spcOk, hE, h60]
    have k1 : spcOk x.cur = true := by simp [spcOk, hE, h60]
    refine CmpW.N ?_
    refine gos ?_
    refine And.intro (And.intro (of_decide_eq_true rfl) (of_decide_eq_true rfl)) ?_
    (repeat (first | refine gof ?_ | refine fun (vv : Nat) => ?_))
    cases hE2 : clsF x.num with
    | error p =>
      rw [hE2] at dN
      refine CallW.pure dN rfl rfl ?_
      (repeat (first | refine gof ?_ | refine fun (vv : Nat) => ?_))
      refine RetW.plain (by simp) ?_
      simp [spcB, spcOk, hE2]
    | ok d =>
    rw [hE2] at dN
    refine CallW.pure dN rfl rfl ?_
    (repeat (first | refine gof ?_ | refine fun (vv : Nat) => ?_))
    rw [rgEs_len]
    by_cases h61 : d.length ≤ 60
    case neg =>
      refine CmpW.T ?_
      refine gos ?_
      refine RetW.plain (by simp) ?_
      simp [spcB, spcOk, hE2, h61]
    have k2 : spcOk x.num = true := by simp [spcOk, hE2, h61]
    refine CmpW.N ?_
    refine gos ?_
    exact ⟨_, 0, fgts, k1, k2, rfl, rfl⟩
  rintro e h ⟨k1, k2, rfl, rfl⟩
  refine AC.go tab ?_
  refine gos ?_
  refine CallW.pure (maybe_does m x.ins (by omega)) rfl rfl ?_
  refine gos ?_
  refine RetW.plain (by simp) ?_
  simp [spcB, k1, k2]
end Go.Proofs.YtjjppmbojcgdgaaGreatDoor

namespace Go.Proofs.YtjjppmbojcgdgaaGreatDoor
open Go Go.Abs
attribute [local irreducible] DrawW CallW RetW AC Does CmpW
structure TDig.fits (d : TDig) : Prop where
  all : ∀ x ∈ d.list, x.length < 50000
structure TTab.fits (t : TTab) : Prop where
  dg : ∀ x ∈ t.dg.list, x.length < 50000
  minus : t.minus.length < 50000
  plus : t.plus.length < 50000
  percent : t.percent.length < 50000
  permille : t.permille.length < 50000
  point : t.point.length < 50000
  comma : t.comma.length < 50000
  decimal : t.decimal.length < 50000
  per : t.per.length < 50000
  money : t.money.length < 50000
  account : t.account.length < 50000
  rules : t.rules.length < 50000
  short : t.short.length < 50000 ∧ ∀ r ∈ t.short, r.fits
  long : t.long.length < 50000 ∧ ∀ r ∈ t.long, r.fits
  mshort : t.mshort.length < 50000 ∧ ∀ r ∈ t.mshort, r.fits
  curs : t.curs.length < 50000 ∧ ∀ c ∈ t.curs, c.fits
  units : t.units.length < 50000 ∧ ∀ u ∈ t.units, u.name.length < 50000 ∧ txtFits u.texts
  munit : txtFits t.munit
  before : t.before.fits
  after : t.after.fits
def curP (l : List TCur) (i : Nat) : Bool := match l[i]? with
  | some c => moneyB c && (decide (i = 0) || match l[i - 1]? with
    | some d => Op.bytesLess d.code c.code
    | none => false)
  | none => false
def untP (l : List TUnt) (i : Nat) : Bool := match l[i]? with
  | some u => nameF u.name && (catsF u.texts (plcK 1 u.texts) && (decide (i = 0) || match l[i - 1]? with
    | some v => Op.bytesLess v.name u.name
    | none => false))
  | none => false
def ckSign (t : TTab) : Bool := nameF t.minus && (nameF t.plus && (nameF t.percent && nameF t.permille))
def ckPoint (t : TTab) : Bool := pointF t.dg t.point && (pointF t.dg t.comma && decide (t.point ≠ t.comma))
def ckPat (t : TTab) : Bool := shapF t.decimal 0 0 && (shapF t.per 0 1 && (shapF t.money 1 0 && shapF t.account 1 0))
def ckRules (t : TTab) : Bool := decide ((rulP t.rules).2.1 = 0)
def ckRow (t : TTab) : Bool := rowsF t.short 0 && (rowsF t.long 0 && rowsF t.mshort 1)
def ckCur (t : TTab) : Bool := decide (t.curs.length ≤ 40) && allB (curP t.curs) t.curs.length
def ckUnit (t : TTab) : Bool := decide (t.units.length ≤ 40) && allB (untP t.units) t.units.length
def ckSpc (t : TTab) : Bool := spcB t.before && spcB t.after
variable {m : Int} {t : TTab}
theorem ck1_does (h : t.fits) : Does Tryz.prog (GL m) 82 ([] ++ [] ++ [.fptr (tabC t)]) [] fun ae _ => ae = .ret (.bool (ckSign t)) := by
  obtain ⟨hD, hMi, hPl, hPc, hPm, hPo, hCo, hDe, hPe, hMo, hAc, hRu, hSh, hLo, hMs, hCu, hUn, hMu, hBe, hAf⟩ := h
  refine Does.body tab Tryz.func82 rfl rfl ?_
  refine gos ?_
  refine CallW.pure (vname_does m t.minus (by omega)) rfl rfl ?_
  cases k0 : nameF t.minus with
  | false =>
    refine gos ?_
    refine RetW.plain (by simp) ?_
    simp [ckSign, k0]
  | true =>
  refine gos ?_
  refine CallW.pure (vname_does m t.plus (by omega)) rfl rfl ?_
  cases k1 : nameF t.plus with
  | false =>
    refine gos ?_
    refine RetW.plain (by simp) ?_
    simp [ckSign, k0, k1]
  | true =>
  refine gos ?_
  refine CallW.pure (vname_does m t.percent (by omega)) rfl rfl ?_
  cases k2 : nameF t.percent with
  | false =>
    refine gos ?_
    refine RetW.plain (by simp) ?_
    simp [ckSign, k0, k1, k2]
  | true =>
  refine gos ?_
  refine CallW.pure (vname_does m t.permille (by omega)) rfl rfl ?_
  refine gos ?_
  refine RetW.plain (by simp) ?_
  simp [ckSign, k0, k1, k2]
theorem ck2_does (h : t.fits) : Does Tryz.prog (GL m) 84 ([] ++ [] ++ [.fptr (tabC t)]) [] fun ae _ => ae = .ret (.bool (ckPoint t)) := by
  refine Does.body tab Tryz.func84 rfl rfl ?_
  refine gos ?_
  refine CallW.pure (point_does m t t.point (by have := h.point; omega)) rfl rfl ?_
  cases k0 : pointF t.dg t.point with
  | false =>
    refine gos ?_
    refine RetW.plain (by simp) ?_
    simp [ckPoint, k0]
  | true =>
  refine gos ?_
  refine CallW.pure (point_does m t t.comma (by have := h.comma; omega)) rfl rfl ?_
  cases k1 : pointF t.dg t.comma with
  | false =>
    refine gos ?_
    refine RetW.plain (by simp) ?_
    simp [ckPoint, k1]
  | true =>
  refine gos ?_
  refine CmpW.s ?_
  refine gos ?_
  refine RetW.plain (by simp) ?_
  simp [ckPoint, k0, k1]
  rw [Bool.eq_iff_iff]; simp
theorem ck3_does : Does Tryz.prog (GL m) 86 ([] ++ [] ++ [.fptr (tabC t)]) [] fun ae _ => ae = .ret (.bool (inF t.minGroup 1 4)) := by
  refine Does.body tab Tryz.func86 rfl rfl ?_
  refine gos ?_
  refine CallW.pure (vin_does t.minGroup 1 4) rfl rfl ?_
  refine gos ?_
  refine RetW.plain (by simp) ?_
  rfl
theorem ck4_does (h : t.fits) : Does Tryz.prog (GL m) 88 ([] ++ [] ++ [.fptr (tabC t)]) [] fun ae _ => ae = .ret (.bool (ckPat t)) := by
  obtain ⟨hD, hMi, hPl, hPc, hPm, hPo, hCo, hDe, hPe, hMo, hAc, hRu, hSh, hLo, hMs, hCu, hUn, hMu, hBe, hAf⟩ := h
  refine Does.body tab Tryz.func88 rfl rfl ?_
  refine gos ?_
  refine CallW.pure (shaped_does m t.decimal (by omega) 0 0) rfl rfl ?_
  cases k0 : shapF t.decimal 0 0 with
  | false =>
    refine gos ?_
    refine RetW.plain (by simp) ?_
    simp [ckPat, k0]
  | true =>
  refine gos ?_
  refine CallW.pure (shaped_does m t.per (by omega) 0 1) rfl rfl ?_
  cases k1 : shapF t.per 0 1 with
  | false =>
    refine gos ?_
    refine RetW.plain (by simp) ?_
    simp [ckPat, k0, k1]
  | true =>
  refine gos ?_
  refine CallW.pure (shaped_does m t.money (by omega) 1 0) rfl rfl ?_
  cases k2 : shapF t.money 1 0 with
  | false =>
    refine gos ?_
    refine RetW.plain (by simp) ?_
    simp [ckPat, k0, k1, k2]
  | true =>
  refine gos ?_
  refine CallW.pure (shaped_does m t.account (by omega) 1 0) rfl rfl ?_
  refine gos ?_
  refine RetW.plain (by simp) ?_
  simp [ckPat, k0, k1, k2]
theorem ck5_does (h : t.fits) : Does Tryz.prog (GL m) 90 ([] ++ [] ++ [.fptr (tabC t)]) [] fun ae _ => ae = .ret (.bool (ckRules t)) := by
  have dR := RParse_does (m := m) t.rules (by have := h.rules; omega)
  obtain ⟨x, hx⟩ : ∃ x, x = rulP t.rules := ⟨_, rfl⟩
  have hC : ckRules t = decide (x.2.1 = 0) := by rw [hx]; rfl
  rw [← hx] at dR
  rw [hC]
  obtain ⟨xs, e, n⟩ := x
  refine Does.bodyA tab Tryz.func90 rfl rfl ?_
  refine AC.step tab ?_
  refine gos ?_
  refine AC.step tab ?_
  refine gos ?_
  refine CallW.pure dR rfl rfl ?_
  (repeat (first | refine gof ?_ | refine fun (vv : Nat) => ?_))
  refine AC.go tab ?_
  refine gos ?_
  refine CmpW.s ?_
  refine gos ?_
  refine RetW.plain (by simp) ?_
  congr 2
theorem ck6_does (h : t.fits) : Does Tryz.prog (GL m) 91 ([] ++ [] ++ [.fptr (tabC t)]) [] fun ae _ => ae = .ret (.bool (ckRow t)) := by
  obtain ⟨hD, hMi, hPl, hPc, hPm, hPo, hCo, hDe, hPe, hMo, hAc, hRu, hSh, hLo, hMs, hCu, hUn, hMu, hBe, hAf⟩ := h
  refine Does.body tab Tryz.func91 rfl rfl ?_
  refine gos ?_
  refine CallW.pure (rows_does m t.short 0 (by omega) hSh.2) rfl rfl ?_
  cases k0 : rowsF t.short 0 with
  | false =>
    refine gos ?_
    refine RetW.plain (by simp) ?_
    simp [ckRow, k0]
  | true =>
  refine gos ?_
  refine CallW.pure (rows_does m t.long 0 (by omega) hLo.2) rfl rfl ?_
  cases k1 : rowsF t.long 0 with
  | false =>
    refine gos ?_
    refine RetW.plain (by simp) ?_
    simp [ckRow, k0, k1]
  | true =>
  refine gos ?_
  refine CallW.pure (rows_does m t.mshort 1 (by omega) hMs.2) rfl rfl ?_
  refine gos ?_
  refine RetW.plain (by simp) ?_
  simp [ckRow, k0, k1]
theorem ck71_does (h : t.fits) (i : Nat) (x : TCur) (hx : t.curs[i]? = some x) : Does Tryz.prog (GL m) 95 ([] ++ [.int .i64 (i : Nat), .agg (encCu x)] ++ [.fptr (tabC t)]) [] fun ae _ => ae = .ret (.bool (curP t.curs i)) := by
  have hlt := (List.getElem?_eq_some_iff.1 hx).1
  have hl := h.curs.1
  have hP : curP t.curs i = (moneyB x && (decide (i = 0) || match t.curs[i - 1]? with
    | some d => Op.bytesLess d.code x.code
    | none => false)) := by
    unfold curP; rw [hx]
  refine Does.body tab Tryz.func95 rfl rfl ?_
  refine gos ?_
  intro v1
  refine gos ?_
  refine DrawW.L ?_
  refine gos ?_
  refine CallW.pure (money_does m x (h.curs.2 x (List.mem_of_getElem? hx))) rfl rfl ?_
  cases k0 : moneyB x with
  | false =>
    refine gos ?_
    refine RetW.plain (by simp) ?_
    rw [hP]; simp [k0]
  | true =>
  refine gos ?_
  by_cases h2 : i = 0
  · refine CmpW.T ?_
    refine gos ?_
    refine RetW.plain (by simp) ?_
    rw [hP]; simp [k0, h2]
  refine CmpW.N ?_
  refine gos ?_
  obtain ⟨y, hy⟩ : ∃ y, t.curs[i - 1]? = some y := ⟨_, List.getElem?_eq_getElem (by omega)⟩
  rw [show (i : Int) - 1 = ((i - 1 : Nat) : Int) by omega]
  refine And.intro (encCu_eight t.curs) (And.intro (by omega) ⟨encCu y, map_get hy, ?_⟩)
  refine gos ?_
  refine CmpW.s ?_
  refine gos ?_
  refine RetW.plain (by simp) ?_
  rw [hP, hy]; simp [k0, h2]
theorem ck7_does (h : t.fits) : Does Tryz.prog (GL m) 93 ([] ++ [] ++ [.fptr (tabC t)]) [] fun ae _ => ae = .ret (.bool (ckCur t)) := by
  have ll : (t.curs.map encCu).length = t.curs.length := by simp
  have hl := h.curs.1
  refine Does.body tab Tryz.func93 rfl rfl ?_
  refine gos ?_
  rw [ll]
  by_cases h40 : t.curs.length ≤ 40
  · refine CmpW.T ?_
    refine gos ?_
    refine CallW.pure (evC_does t.curs (curP t.curs) 95 [.fptr (tabC t)] rfl (by omega) fun i x hx => ck71_does h i x hx) rfl rfl ?_
    refine gos ?_
    refine RetW.plain (by simp) ?_
    simp [ckCur, h40]
  · refine CmpW.N ?_
    refine gos ?_
    refine RetW.plain (by simp) ?_
    simp [ckCur, h40]
theorem ck81_does (h : t.fits) (i : Nat) (x : TUnt) (hx : t.units[i]? = some x) : Does Tryz.prog (GL m) 99 ([] ++ [.int .i64 (i : Nat), .agg (encU x)] ++ [.fptr (tabC t)]) [] fun ae _ => ae = .ret (.bool (untP t.units i)) := by
  have hlt := (List.getElem?_eq_some_iff.1 hx).1
  have hl := h.units.1
  have hfx := h.units.2 x (List.mem_of_getElem? hx)
  have hP : untP t.units i = (nameF x.name && (catsF x.texts (plcK 1 x.texts) && (decide (i = 0) || match t.units[i - 1]? with
    | some v => Op.bytesLess v.name x.name
    | none => false))) := by
    unfold untP; rw [hx]
  refine Does.bodyA tab Tryz.func99 rfl rfl ?_
  refine AC.step tab ?_
  refine gos ?_
  intro v1
  refine gos ?_
  refine AC.wk (Wk.ptr (k := 4) (i := 0) rfl rfl rfl rfl rfl) ?_
  refine AC.cutF tab (fun e h => e = [.any, .any, .any, .any, .any, .bool (untP t.units i)] ++ List.replicate 25 .any ∧ h = [none]) ?_ ?_
  · refine gos ?_
    refine DrawW.P (.take 0 (.take 1 (.take 2 (.take 3 (.take 4 (.fork (.cons 5 (.take 6 (.take 7 (.take 8 (.take 9 (.take 10 (.take 11 (.take 12 (.take 13 (.take 14 (.take 15 (.take 16 (.take 17 (.take 18 (.take 19 (.take 20 (.take 21 (.take 22 (.take 23 (.take 24 (.take 25 .done)))))))))))))))))))) (.cons 6 (.take 5 (.take 7 (.take 8 (.take 9 (.take 10 (.take 11 (.take 12 (.take 13 (.take 14 (.take 15 (.take 16 (.take 17 (.take 18 (.take 19 (.take 20 (.take 21 (.take 22 (.take 23 (.take 24 (.take 25 .done)))))))))))))))))))) .nil)))))))) ?_
    refine gos ?_
    refine CallW.pure (vname_does m x.name (by omega)) rfl rfl ?_
    cases k0 : nameF x.name with
    | false =>
      have hp : untP t.units i = false := by rw [hP]; simp [k0]
      rw [hp]
      refine gos ?_
      refine And.intro ?_ (And.intro ?_ trivial)
      all_goals
        refine gos ?_
        exact ⟨_, 1, fgts, rfl, rfl⟩
    | true =>
    refine gos ?_
    refine And.intro ?_ (And.intro ?_ trivial)
    all_goals
      refine gos ?_
      refine CallW.pure (places_does 1) rfl rfl ?_
      refine gos ?_
      refine CallW.pure (catsPlc_does m 1 (by omega) x.texts hfx.2) rfl rfl ?_
      cases k1 : catsF x.texts (plcK 1 x.texts) with
      | false =>
        have hp : untP t.units i = false := by rw [hP]; simp [k1]
        rw [hp]
        refine gos ?_
        exact ⟨_, 1, fgts, rfl, rfl⟩
      | true =>
      refine gos ?_
      by_cases h2 : i = 0
      · have hp : untP t.units i = true := by rw [hP]; simp [k0, k1, h2]
        rw [hp]
        refine CmpW.T ?_
        refine gos ?_
        exact ⟨_, 1, fgts, rfl, rfl⟩
      refine CmpW.N ?_
      refine gos ?_
      obtain ⟨y, hy⟩ : ∃ y, t.units[i - 1]? = some y := ⟨_, List.getElem?_eq_getElem (by omega)⟩
      have hp : untP t.units i = Op.bytesLess y.name x.name := by rw [hP, hy]; simp [k0, k1, h2]
      rw [show (i : Int) - 1 = ((i - 1 : Nat) : Int) by omega]
      refine And.intro (encU_two t.units) (And.intro (by omega) ⟨encU y, map_get hy, ?_⟩)
      refine gos ?_
      refine CmpW.s ?_
      refine gos ?_
      rw [hp]
      exact ⟨_, 1, fgts, rfl, rfl⟩
  rintro e h ⟨rfl, rfl⟩
  refine AC.go tab ?_
  refine gos ?_
  refine RetW.plain (by simp) ?_
  rfl
theorem ck8_does (h : t.fits) : Does Tryz.prog (GL m) 97 ([] ++ [] ++ [.fptr (tabC t)]) [] fun ae _ => ae = .ret (.bool (ckUnit t)) := by
  have ll : (t.units.map encU).length = t.units.length := by simp
  have hl := h.units.1
  refine Does.body tab Tryz.func97 rfl rfl ?_
  refine gos ?_
  rw [ll]
  by_cases h40 : t.units.length ≤ 40
  · refine CmpW.T ?_
    refine gos ?_
    refine CallW.pure (evU_does t.units (untP t.units) 99 [.fptr (tabC t)] rfl (by omega) fun i x hx => ck81_does h i x hx) rfl rfl ?_
    refine gos ?_
    refine RetW.plain (by simp) ?_
    simp [ckUnit, h40]
  · refine CmpW.N ?_
    refine gos ?_
    refine RetW.plain (by simp) ?_
    simp [ckUnit, h40]
theorem ck9_does (h : t.fits) : Does Tryz.prog (GL m) 102 ([] ++ [] ++ [.fptr (tabC t)]) [] fun ae _ => ae = .ret (.bool (catsF t.munit (plcK 2 t.munit))) := by
  refine Does.bodyA tab Tryz.func102 rfl rfl ?_
  refine AC.step tab ?_
  refine gos ?_
  refine AC.go tab ?_
  refine gos ?_
  refine DrawW.P (.take 0 (.fork (.cons 1 (.take 2 (.take 3 (.take 4 .done))) (.cons 2 (.take 1 (.take 3 (.take 4 .done))) .nil)))) ?_
  refine gos ?_
  refine And.intro ?_ (And.intro ?_ trivial)
  all_goals
    refine gos ?_
    refine CallW.pure (places_does 2) rfl rfl ?_
    refine gos ?_
    refine CallW.pure (catsPlc_does m 2 (by omega) t.munit h.munit) rfl rfl ?_
    refine gos ?_
    refine RetW.plain (by simp) ?_
    rfl
theorem ck10_does (h : t.fits) : Does Tryz.prog (GL m) 103 ([] ++ [] ++ [.fptr (tabC t)]) [] fun ae _ => ae = .ret (.bool (ckSpc t)) := by
  refine Does.body tab Tryz.func103 rfl rfl ?_
  refine gos ?_
  refine CallW.pure (spacing_does m t.before h.before) rfl rfl ?_
  cases k0 : spcB t.before with
  | false =>
    refine gos ?_
    refine RetW.plain (by simp) ?_
    simp [ckSpc, k0]
  | true =>
  refine gos ?_
  refine CallW.pure (spacing_does m t.after h.after) rfl rfl ?_
  refine gos ?_
  refine RetW.plain (by simp) ?_
  simp [ckSpc, k0]
theorem ck0_does (h : t.fits) : Does Tryz.prog (GL m) 81 ([.agg t.dg.cells] ++ [] ++ []) [] fun ae _ => ae = .ret (.bool (setF t.dg.list)) :=
  SetValid_does m t.dg.d0 t.dg.d1 t.dg.d2 t.dg.d3 t.dg.d4 t.dg.d5 t.dg.d6 t.dg.d7 t.dg.d8 t.dg.d9 fun d hd => by
    have := h.dg d hd
    omega
def checkF (t : TTab) : Int :=
  if setF t.dg.list = false then 1 else if ckSign t = false then 2 else if ckPoint t = false then 3 else if inF t.minGroup 1 4 = false then 4 else if ckPat t = false then 5 else if ckRules t = false then 6
  else if ckRow t = false then 7 else if ckCur t = false then 8 else if ckUnit t = false then 9 else if catsF t.munit (plcK 2 t.munit) = false then 10 else if ckSpc t = false then 11 else 0
theorem Check_does (h : t.fits) : Does Tryz.prog (GL m) 33 [.agg (tabC t)] [] fun ae _ => ae = .ret (.int .i64 (checkF t)) := by
  have d0 := ck0_does (m := m) h
  have d1 := ck1_does (m := m) h
  have d2 := ck2_does (m := m) h
  have d3 := ck3_does (m := m) (t := t)
  have d4 := ck4_does (m := m) h
  have d5 := ck5_does (m := m) h
  have d6 := ck6_does (m := m) h
  have d7 := ck7_does (m := m) h
  have d8 := ck8_does (m := m) h
  have d9 := ck9_does (m := m) h
  have d10 := ck10_does (m := m) h
  refine Does.bodyA tab Tryz.func33 rfl rfl ?_
  refine AC.step tab ?_
  refine gos ?_
  intro v1
  refine gos ?_
  refine AC.wk (Wk.ptr (k := 1) (i := 0) (cs := tabC t) rfl rfl rfl rfl rfl) ?_
  refine AC.cutF tab (fun e h => ∃ vr, e = [.any, .any, .int .i64 0, .sl 1 vr] ++ List.replicate 40 .any ∧ h = [none, some ⟨vr, 178, 2, [[.int .i64 1, .func (.func 81) [.agg t.dg.cells] []], [.int .i64 2, .func (.func 82) [] [.fptr (tabC t)]], [.int .i64 3, .func (.func 84) [] [.fptr (tabC t)]], [.int .i64 4, .func (.func 86) [] [.fptr (tabC t)]], [.int .i64 5, .func (.func 88) [] [.fptr (tabC t)]], [.int .i64 6, .func (.func 90) [] [.fptr (tabC t)]], [.int .i64 7, .func (.func 91) [] [.fptr (tabC t)]], [.int .i64 8, .func (.func 93) [] [.fptr (tabC t)]], [.int .i64 9, .func (.func 97) [] [.fptr (tabC t)]], [.int .i64 10, .func (.func 102) [] [.fptr (tabC t)]], [.int .i64 11, .func (.func 103) [] [.fptr (tabC t)]]]⟩]) ?_ ?_
  · (repeat (first | refine gof ?_ | refine fun (vv : Nat) => ?_))
    exact ⟨_, 2, fgts, _, rfl, rfl⟩
  rintro e h ⟨vr, rfl, rfl⟩
  obtain ⟨T, hT⟩ : ∃ T, T = tabC t := ⟨_, rfl⟩
  rw [← hT] at d1 d2 d3 d4 d5 d6 d7 d8 d9 d10
  rw [← hT]
  have hF : checkF t = checkF t := rfl
  conv at hF => rhs; unfold checkF
  generalize checkF t = R at hF ⊢
  clear h hT
  generalize setF t.dg.list = b0 at d0 hF
  generalize ckSign t = b1 at d1 hF
  generalize ckPoint t = b2 at d2 hF
  generalize inF t.minGroup 1 4 = b3 at d3 hF
  generalize ckPat t = b4 at d4 hF
  generalize ckRules t = b5 at d5 hF
  generalize ckRow t = b6 at d6 hF
  generalize ckCur t = b7 at d7 hF
  generalize ckUnit t = b8 at d8 hF
  generalize catsF t.munit (plcK 2 t.munit) = b9 at d9 hF
  generalize ckSpc t = b10 at d10 hF
  refine AC.cutF tab (fun e h => R = 0 ∧ e = List.replicate 44 .any ∧ h = []) ?_ ?_
  · refine gos ?_
    refine AC.rounds tab 12 ?_
    refine gos ?_
    refine And.intro (And.intro (of_decide_eq_true rfl) (of_decide_eq_true rfl)) ?_
    (repeat (first | refine gof ?_ | refine fun (vv : Nat) => ?_))
    refine CallW.pure d0 rfl rfl ?_
    cases b0
    case false =>
      refine gos ?_
      refine RetW.plain (by simp) ?_
      rw [hF]; rfl
    rw [if_neg (by simp)] at hF
    refine gos ?_
    refine And.intro (And.intro (of_decide_eq_true rfl) (of_decide_eq_true rfl)) ?_
    (repeat (first | refine gof ?_ | refine fun (vv : Nat) => ?_))
    refine CallW.pure d1 rfl rfl ?_
    cases b1
    case false =>
      refine gos ?_
      refine RetW.plain (by simp) ?_
      rw [hF]; rfl
    rw [if_neg (by simp)] at hF
    refine gos ?_
    refine And.intro (And.intro (of_decide_eq_true rfl) (of_decide_eq_true rfl)) ?_
    (repeat (first | refine gof ?_ | refine fun (vv : Nat) => ?_))
    refine CallW.pure d2 rfl rfl ?_
    cases b2
    case false =>
      refine gos ?_
      refine RetW.plain (by simp) ?_
      rw [hF]; rfl
    rw [if_neg (by simp)] at hF
    refine gos ?_
    refine And.intro (And.intro (of_decide_eq_true rfl) (of_decide_eq_true rfl)) ?_
    (repeat (first | refine gof ?_ | refine fun (vv : Nat) => ?_))
    refine CallW.pure d3 rfl rfl ?_
    cases b3
    case false =>
      refine gos ?_
      refine RetW.plain (by simp) ?_
      rw [hF]; rfl
    rw [if_neg (by simp)] at hF
    refine gos ?_
    refine And.intro (And.intro (of_decide_eq_true rfl) (of_decide_eq_true rfl)) ?_
    (repeat (first | refine gof ?_ | refine fun (vv : Nat) => ?_))
    refine CallW.pure d4 rfl rfl ?_
    cases b4
    case false =>
      refine gos ?_
      refine RetW.plain (by simp) ?_
      rw [hF]; rfl
    rw [if_neg (by simp)] at hF
    refine gos ?_
    refine And.intro (And.intro (of_decide_eq_true rfl) (of_decide_eq_true rfl)) ?_
    (repeat (first | refine gof ?_ | refine fun (vv : Nat) => ?_))
    refine CallW.pure d5 rfl rfl ?_
    cases b5
    case false =>
      refine gos ?_
      refine RetW.plain (by simp) ?_
      rw [hF]; rfl
    rw [if_neg (by simp)] at hF
    refine gos ?_
    refine And.intro (And.intro (of_decide_eq_true rfl) (of_decide_eq_true rfl)) ?_
    (repeat (first | refine gof ?_ | refine fun (vv : Nat) => ?_))
    refine CallW.pure d6 rfl rfl ?_
    cases b6
    case false =>
      refine gos ?_
      refine RetW.plain (by simp) ?_
      rw [hF]; rfl
    rw [if_neg (by simp)] at hF
    refine gos ?_
    refine And.intro (And.intro (of_decide_eq_true rfl) (of_decide_eq_true rfl)) ?_
    (repeat (first | refine gof ?_ | refine fun (vv : Nat) => ?_))
    refine CallW.pure d7 rfl rfl ?_
    cases b7
    case false =>
      refine gos ?_
      refine RetW.plain (by simp) ?_
      rw [hF]; rfl
    rw [if_neg (by simp)] at hF
    refine gos ?_
    refine And.intro (And.intro (of_decide_eq_true rfl) (of_decide_eq_true rfl)) ?_
    (repeat (first | refine gof ?_ | refine fun (vv : Nat) => ?_))
    refine CallW.pure d8 rfl rfl ?_
    cases b8
    case false =>
      refine gos ?_
      refine RetW.plain (by simp) ?_
      rw [hF]; rfl
    rw [if_neg (by simp)] at hF
    refine gos ?_
    refine And.intro (And.intro (of_decide_eq_true rfl) (of_decide_eq_true rfl)) ?_
    (repeat (first | refine gof ?_ | refine fun (vv : Nat) => ?_))
    refine CallW.pure d9 rfl rfl ?_
    cases b9
    case false =>
      refine gos ?_
      refine RetW.plain (by simp) ?_
      rw [hF]; rfl
    rw [if_neg (by simp)] at hF
    refine gos ?_
    refine And.intro (And.intro (of_decide_eq_true rfl) (of_decide_eq_true rfl)) ?_
    (repeat (first | refine gof ?_ | refine fun (vv : Nat) => ?_))
    refine CallW.pure d10 rfl rfl ?_
    cases b10
    case false =>
      refine gos ?_
      refine RetW.plain (by simp) ?_
      rw [hF]; rfl
    rw [if_neg (by simp)] at hF
    refine gos ?_
    exact ⟨_, 0, fgts, hF, rfl, rfl⟩
  rintro e h ⟨hR, rfl, rfl⟩
  refine AC.go tab ?_
  refine gos ?_
  refine RetW.plain (by simp) ?_
  rw [hR]
end Go.Proofs.YtjjppmbojcgdgaaGreatDoor
