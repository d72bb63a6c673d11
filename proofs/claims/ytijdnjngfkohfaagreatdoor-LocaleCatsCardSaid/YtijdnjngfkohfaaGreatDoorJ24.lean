/- The writer of bytes: what each of its functions does. -/
import Derived.Test.YtijdnjngfkohfaaGreatDoorJ21
import Derived.Test.YtijdnjngfkohfaaGreatDoorJ17
import Derived.Test.YtijdnjngfkohfaaGreatDoorJ18
set_option linter.unusedVariables false
set_option linter.unusedSimpArgs false
set_option maxRecDepth 100000
set_option maxHeartbeats 4000000

namespace Go.Proofs.YtijdnjngfkohfaaGreatDoor
open Go Go.Abs
attribute [local irreducible] DrawW CallW RetW AC Does CmpW
theorem dec_max (s : List UInt8) : (dec s).1 ≤ 1114111 := by
  unfold dec Lib.decodeGo
  split
  · decide
  · exact Lib.rune_le _ _
theorem conF_le {s : List UInt8} {a : Nat} (ha : a ≤ s.length) {v b : Nat} (h : conF s a = some (v, b)) : bl s a < b ∧ b ≤ s.length ∧ v ≤ 1114111 := by
  have hb := bl_le ha
  unfold conF at h
  split at h
  · exact escF_le hb.2 h
  split at h
  · cases h
  rename_i h2
  split at h
  · cases h
  simp only [Option.some.injEq, Prod.mk.injEq] at h
  obtain ⟨rfl, rfl⟩ := h
  have h3 := dec_le (s.drop (bl s a))
  have h4 := dec_pos (s.drop (bl s a)) (by intro e; have := congrArg List.length e; simp at this; omega)
  rw [List.length_drop] at h3
  exact ⟨by omega, by omega, dec_max _⟩
def itemF (s : List UInt8) (a : Nat) : Except Nat (Rg × Nat) := match conF s a with
  | none => .error (bl s a)
  | some (lo, b) => if nx s b 45 then (match conF s (bl s (nxE s b 45)) with
      | none => .error (bl s (bl s (nxE s b 45)))
      | some (hi, e) => if hi < lo then .error (bl s (nxE s b 45)) else .ok (mkR lo hi, e))
    else .ok (mkR lo lo, nxE s b 45)
def clsL (s : List UInt8) : Nat → Nat → List Rg → Except Nat (List Rg × Nat)
  | 0, a, _ => .error a
  | f + 1, a, acc => if nx s a 93 then .ok (acc, nxE s a 93) else match itemF s (nxE s a 93) with
    | .error p => .error p
    | .ok (x, e) => clsL s f e (acc ++ [x])
def clsE (s : List UInt8) (neg : Bool) : Except Nat (List Rg × Nat) → Except Nat (List Rg)
  | .error p => .error p
  | .ok (l, e) => if bl s e = s.length then .ok (if neg then notR (madeR l) else madeR l) else .error (bl s e)
def clsF (s : List UInt8) : Except Nat (List Rg) :=
  if nx s 0 91 = false then .error (bl s 0)
  else clsE s (nx s (nxE s 0 91) 94) (clsL s (s.length + 1) (nxE s (nxE s 0 91) 94) [])
def clsI (s : List UInt8) (f a : Nat) (bad : Int) (acc : List Rg) (T : Except Nat (List Rg × Nat)) : Prop :=
  (bad = -1 ∧ s.length + 1 < f + a ∧ acc.length ≤ a ∧ T = clsL s (f - 1) a acc) ∨ (∃ p : Nat, bad = p ∧ acc.length ≤ s.length + 1 ∧ T = .error p)
theorem bd_neg (a : Nat) : bd a (-1) = (a : Int) := rfl
theorem pk_end {s : List UInt8} {a : Nat} (h : bl s a = s.length) : pk s a = 0 := by
  unfold pk; rw [h, List.getElem?_eq_none (Nat.le_refl _)]
theorem rclass_does (m : Int) (s : List UInt8) (hs : s.length < 60000) (ver : Nat) :
    Does Tryz.prog (GL m) 183 [.ptr 0 ver 0 0] [some (cro ver s 0 (-1))] fun ae O => ∃ c a', ae = .ret (.fsl (rgEs c)) ∧ c.length ≤ s.length + 2 ∧ match clsF s with
      | .error p => O = [some (cro ver s a' p)]
      | .ok c' => c = c' ∧ O = [some (cro ver s a' (-1))] := by
  have ha0 : 0 ≤ s.length := Nat.zero_le _
  refine Does.bodyA tab Tryz.func183 rfl rfl ?_
  refine AC.step tab ?_
  refine gos ?_
  refine AC.step tab ?_
  refine gos ?_
  refine CallW.meth 0 (ctake_does s 0 (-1) 91 (by decide) ha0 (by omega) ver) rfl rfl rfl rfl rfl rfl ?_
  cases h91 : nx s 0 91 with
  | false =>
    have hF : clsF s = .error (bl s 0) := by unfold clsF; rw [if_pos h91]
    have hx : nxE s 0 91 = bl s 0 := by simp [nxE, h91]
    rw [hx]
    refine gos ?_
    refine CallW.meth 0 (cfail_does s _ (-1) ver) rfl rfl rfl rfl rfl rfl ?_
    refine gos ?_
    refine RetW.wk (r' := .fsl (rgEs [])) (by simp) ?_ (Wk.nil (k := 0) rfl) ?_
    · rfl
    rw [hF]
    exact ⟨[], _, rfl, by simp, by rw [bd_neg]; rfl⟩
  | true =>
  have hn1 := nxE_le (s := s) 91 ha0
  obtain ⟨a1, ha1⟩ : ∃ a1, a1 = nxE s 0 91 := ⟨_, rfl⟩
  rw [← ha1] at hn1 ⊢
  refine gos ?_
  refine AC.step tab ?_
  refine gos ?_
  refine CallW.meth 0 (ctake_does s a1 (-1) 94 (by decide) hn1.2 (by omega) ver) rfl rfl rfl rfl rfl rfl ?_
  have hn2 := nxE_le (s := s) 94 hn1.2
  obtain ⟨a2, ha2⟩ : ∃ a2, a2 = nxE s a1 94 := ⟨_, rfl⟩
  obtain ⟨neg, hneg⟩ : ∃ neg, neg = nx s a1 94 := ⟨_, rfl⟩
  rw [← ha2] at hn2 ⊢
  rw [← hneg]
  obtain ⟨T, hT⟩ : ∃ T, T = clsL s (s.length + 1) a2 [] := ⟨_, rfl⟩
  have hF : clsF s = clsE s neg T := by
    unfold clsF; rw [if_neg (by simp [h91]), ← ha1, ← ha2, ← hT, ← hneg]
  refine gos ?_
  refine AC.step tab ?_
  refine gos ?_
  refine AC.own 4 145 2 rfl (by omega) fun v0 => ?_
  refine AC.cutF tab (fun e h => ∃ (va a : Nat) (bad : Int) (l : List Rg), a ≤ s.length ∧ l.length ≤ s.length + 1 ∧ ((bad = -1 ∧ T = .ok (l, a)) ∨ (∃ p : Nat, bad = p ∧ T = .error p)) ∧
      e = [.ptr 0 ver 0 0, .any, .nils, .bool neg, .sl 1 va] ++ List.replicate 99 .any ∧ h = [some (cro ver s a bad), some ⟨va, 145, 2, rgEs l⟩]) ?_ ?_
  · refine gos ?_
    refine AC.loopC tab (fun f e h => ∃ (va a : Nat) (bad : Int) (acc : List Rg), 0 < f ∧ a ≤ s.length ∧ clsI s f a bad acc T ∧
        e = [.ptr 0 ver 0 0, .any, .nils, .bool neg, .sl 1 va] ++ List.replicate 99 .any ∧ h = [some (cro ver s a bad), some ⟨va, 145, 2, rgEs acc⟩])
      (s.length + 2) ⟨_, fgts, v0, a2, -1, [], by omega, hn2.2, .inl ⟨rfl, by omega, by simp, hT⟩, rfl, rfl⟩ ?_
    rintro f e h ⟨va, a, bad, acc, hf, ha, hI, rfl, rfl⟩
    rcases hI with ⟨rfl, hfa, hacc, hT⟩ | ⟨p, rfl, hacc, hT⟩
    case inr =>
      refine gos ?_
      exact ⟨_, 2, fgts, va, a, p, acc, ha, hacc, .inr ⟨p, rfl, hT⟩, rfl, rfl⟩
    obtain ⟨f, rfl⟩ : ∃ q, f = q + 2 := ⟨f - 2, by omega⟩
    rw [show f + 2 - 1 = f + 1 from rfl] at hT
    refine gos ?_
    refine CallW.meth 0 (ctake_does s a (-1) 93 (by decide) ha (by omega) ver) rfl rfl rfl rfl rfl rfl ?_
    have hn3 := nxE_le (s := s) 93 ha
    simp only [clsL] at hT
    cases h93 : nx s a 93 with
    | true =>
      rw [if_pos h93] at hT
      refine gos ?_
      exact ⟨_, 2, fgts, va, _, -1, acc, hn3.2, by omega, .inl ⟨rfl, hT⟩, rfl, rfl⟩
    | false =>
    rw [if_neg (by simp [h93])] at hT
    obtain ⟨b, hb⟩ : ∃ b, b = nxE s a 93 := ⟨_, rfl⟩
    rw [← hb] at hn3 hT ⊢
    have hbb := bl_le hn3.2
    have hC := cone_does m s b (-1) hn3.2 (by omega) ver
    unfold itemF at hT
    refine gos ?_
    cases hR : conF s b with
    | none =>
      rw [hR] at hC hT
      simp only at hC hT
      rw [bd_neg] at hC
      refine CallW.meth 0 hC rfl rfl rfl rfl rfl rfl ?_
      (repeat (first | refine gof ?_ | refine fun (vv : Nat) => ?_))
      exact ⟨f + 1, _, 2, by omega, fgts, _, _, _, acc ++ [mkR 0 0], by omega, hbb.2, .inr ⟨_, rfl, by simp; omega, hT⟩, rfl, by simp [rgEs, encG_mk (show 0 < 1114112 by omega) (show 0 < 1114112 by omega)]⟩
    | some q =>
    obtain ⟨lo, c⟩ := q
    have hcl := conF_le hn3.2 hR
    rw [hR] at hC hT
    simp only at hC hT
    refine CallW.meth 0 hC rfl rfl rfl rfl rfl rfl ?_
    refine gos ?_
    refine CallW.meth 0 (ctake_does s c (-1) 45 (by decide) hcl.2.1 (by omega) ver) rfl rfl rfl rfl rfl rfl ?_
    have hn4 := nxE_le (s := s) 45 hcl.2.1
    obtain ⟨d, hd⟩ : ∃ d, d = nxE s c 45 := ⟨_, rfl⟩
    rw [← hd] at hn4 hT ⊢
    cases h45 : nx s c 45 with
    | false =>
      rw [if_neg (by simp [h45])] at hT
      (repeat (first | refine gof ?_ | refine fun (vv : Nat) => ?_))
      exact ⟨f + 1, _, 2, by omega, fgts, _, _, _, acc ++ [mkR lo lo], by omega, hn4.2, .inl ⟨rfl, by omega, by simp; omega, hT⟩, rfl, by simp [rgEs, encG_mk (show lo < 1114112 by omega) (show lo < 1114112 by omega)]⟩
    | true =>
    rw [if_pos h45] at hT
    refine gos ?_
    refine CallW.meth 0 (cpeek_does s d (-1) hn4.2 (by omega) ver) rfl rfl rfl rfl rfl rfl ?_
    have hbd := bl_le hn4.2
    obtain ⟨g, hg⟩ : ∃ g, g = bl s d := ⟨_, rfl⟩
    rw [← hg] at hbd hT ⊢
    have hC2 := cone_does m s g (-1) hbd.2 (by omega) ver
    refine gos ?_
    cases hR2 : conF s g with
    | none =>
      rw [hR2] at hC2 hT
      simp only at hC2 hT
      rw [bd_neg] at hC2
      have hbg := bl_le hbd.2
      refine CallW.meth 0 hC2 rfl rfl rfl rfl rfl rfl ?_
      (repeat (first | refine gof ?_ | refine fun (vv : Nat) => ?_))
      exact ⟨f + 1, _, 2, by omega, fgts, _, _, _, acc ++ [mkR lo 0], by omega, hbg.2, .inr ⟨_, rfl, by simp; omega, hT⟩, rfl, by simp [rgEs, encG_mk (show lo < 1114112 by omega) (show 0 < 1114112 by omega)]⟩
    | some q =>
    obtain ⟨hi, k⟩ := q
    have hcl2 := conF_le hbd.2 hR2
    have hbg := bl_le hbd.2
    rw [hR2] at hC2 hT
    simp only at hC2 hT
    refine CallW.meth 0 hC2 rfl rfl rfl rfl rfl rfl ?_
    refine gos ?_
    by_cases hlt : hi < lo
    · rw [if_pos hlt] at hT
      refine CmpW.T ?_
      refine gos ?_
      refine CallW.meth 0 (cfail_does s g (-1) ver) rfl rfl rfl rfl rfl rfl ?_
      rw [bd_neg]
      (repeat (first | refine gof ?_ | refine fun (vv : Nat) => ?_))
      exact ⟨f + 1, _, 2, by omega, fgts, _, _, _, acc ++ [mkR lo hi], by omega, hbd.2, .inr ⟨_, rfl, by simp; omega, hT⟩, rfl, by simp [rgEs, encG_mk (show lo < 1114112 by omega) (show hi < 1114112 by omega)]⟩
    · rw [if_neg hlt] at hT
      refine CmpW.N ?_
      (repeat (first | refine gof ?_ | refine fun (vv : Nat) => ?_))
      exact ⟨f + 1, _, 2, by omega, fgts, _, _, _, acc ++ [mkR lo hi], by omega, hcl2.2.1, .inl ⟨rfl, by omega, by simp; omega, hT⟩, rfl, by simp [rgEs, encG_mk (show lo < 1114112 by omega) (show hi < 1114112 by omega)]⟩
  rintro e h ⟨va, a, bad, l, ha, hl, hT2, rfl, rfl⟩
  have hba := bl_le ha
  obtain ⟨bad2, a3, ha3, hcut⟩ : ∃ (bad2 : Int) (a3 : Nat), a3 ≤ s.length ∧ ((bad2 = -1 ∧ bad = -1 ∧ a3 = bl s a ∧ bl s a = s.length ∧ T = .ok (l, a)) ∨ (∃ p : Nat, bad2 = p ∧ clsF s = .error p ∧ ((bad = p ∧ a3 = a) ∨ (bad = -1 ∧ a3 = bl s a ∧ p = bl s a ∧ ¬ bl s a = s.length)))) := by
    rcases hT2 with ⟨rfl, hT2⟩ | ⟨p, rfl, hT2⟩
    · by_cases he : bl s a = s.length
      · exact ⟨-1, bl s a, hba.2, .inl ⟨rfl, rfl, rfl, he, hT2⟩⟩
      · exact ⟨(bl s a : Nat), bl s a, hba.2, .inr ⟨_, rfl, by rw [hF, hT2]; simp only [clsE, if_neg he], .inr ⟨rfl, rfl, rfl, he⟩⟩⟩
    · exact ⟨p, a, ha, .inr ⟨p, rfl, by rw [hF, hT2]; rfl, .inl ⟨rfl, rfl⟩⟩⟩
  refine AC.cutF tab (fun e h => e = [.ptr 0 ver 0 0, .any, .nils, .bool neg, .sl 1 va] ++ List.replicate 99 .any ∧ h = [some (cro ver s a3 bad2), some ⟨va, 145, 2, rgEs l⟩]) ?_ ?_
  · rcases hcut with ⟨rfl, rfl, rfl, he, _⟩ | ⟨p, rfl, _, ⟨rfl, rfl⟩ | ⟨rfl, rfl, rfl, he⟩⟩
    · refine gos ?_
      refine DrawW.L ?_
      (repeat (first | refine gof ?_ | refine fun (vv : Nat) => ?_))
      refine CallW.meth 0 (cpeek_does s a (-1) ha (by omega) ver) rfl rfl rfl rfl rfl rfl ?_
      rw [pk_end he]
      (repeat (first | refine gof ?_ | refine fun (vv : Nat) => ?_))
      rw [he]
      refine CmpW.f (by simp) ?_
      (repeat (first | refine gof ?_ | refine fun (vv : Nat) => ?_))
      exact ⟨_, 2, fgts, rfl, rfl⟩
    · refine gos ?_
      refine DrawW.L ?_
      (repeat (first | refine gof ?_ | refine fun (vv : Nat) => ?_))
      exact ⟨_, 2, fgts, rfl, rfl⟩
    · refine gos ?_
      refine DrawW.L ?_
      (repeat (first | refine gof ?_ | refine fun (vv : Nat) => ?_))
      refine CallW.meth 0 (cpeek_does s a (-1) ha (by omega) ver) rfl rfl rfl rfl rfl rfl ?_
      (repeat (first | refine gof ?_ | refine fun (vv : Nat) => ?_))
      by_cases h0 : pk s a = 0
      · refine CmpW.f (by simp [h0]) ?_
        (repeat (first | refine gof ?_ | refine fun (vv : Nat) => ?_))
        refine CmpW.t (by simp; omega) ?_
        (repeat (first | refine gof ?_ | refine fun (vv : Nat) => ?_))
        refine CallW.meth 0 (cfail_does s _ (-1) ver) rfl rfl rfl rfl rfl rfl ?_
        rw [bd_neg]
        (repeat (first | refine gof ?_ | refine fun (vv : Nat) => ?_))
        exact ⟨_, 2, fgts, rfl, rfl⟩
      · refine CmpW.t (by simp [h0]) ?_
        (repeat (first | refine gof ?_ | refine fun (vv : Nat) => ?_))
        refine CallW.meth 0 (cfail_does s _ (-1) ver) rfl rfl rfl rfl rfl rfl ?_
        rw [bd_neg]
        (repeat (first | refine gof ?_ | refine fun (vv : Nat) => ?_))
        exact ⟨_, 2, fgts, rfl, rfl⟩
  rintro e h ⟨rfl, rfl⟩
  refine AC.wk (Wk.row (k := 4) (i := 1) (o := ⟨va, 145, 2, rgEs l⟩) rfl rfl rfl (rgEs_closed _)) ?_
  have hml := madeR_len l
  have hnl := notR_len (madeR l)
  have fin : ∀ c : List Rg, c = (if neg then notR (madeR l) else madeR l) → match clsF s with
      | .error p => [some (cro ver s a3 bad2)] = [some (cro ver s a3 p)]
      | .ok c' => c = c' ∧ [some (cro ver s a3 bad2)] = [some (cro ver s a3 (-1))] := by
    intro c hc
    rcases hcut with ⟨rfl, _, _, he, hT3⟩ | ⟨p, rfl, hE, _⟩
    · rw [hF, hT3]
      simp only [clsE, if_pos he]
      exact ⟨hc, trivial⟩
    · rw [hE]
  cases hng : neg with
  | true =>
    rw [hng] at fin
    refine AC.go tab ?_
    refine gos ?_
    refine CallW.pure (made_does l (by omega)) rfl rfl ?_
    refine gos ?_
    refine CallW.pure (cnot_does (madeR l) (by omega)) rfl rfl ?_
    refine gos ?_
    refine RetW.plain (by simp) ?_
    exact ⟨_, a3, rfl, by omega, fin _ rfl⟩
  | false =>
    rw [hng] at fin
    refine AC.go tab ?_
    refine gos ?_
    refine CallW.pure (made_does l (by omega)) rfl rfl ?_
    refine gos ?_
    refine RetW.plain (by simp) ?_
    exact ⟨_, a3, rfl, by omega, fin _ rfl⟩
def clsV : Except Nat (List Rg) → AV
  | .error p => .tuple [.nils, .int .i64 1, .int .i64 p]
  | .ok c => .tuple [.fsl (rgEs c), .int .i64 0, .int .i64 0]
theorem ClsParse_does (m : Int) (s : List UInt8) (hs : s.length < 60000) : Does Tryz.prog (GL m) 121 [.str s] [] fun ae _ => ae = .ret (clsV (clsF s)) := by
  refine Does.bodyA tab Tryz.func121 rfl rfl ?_
  refine AC.step tab ?_
  refine gos ?_
  refine AC.step tab ?_
  refine gos ?_
  intro v
  refine gos ?_
  refine AC.step tab ?_
  refine gos ?_
  have hC := rclass_does m s hs v
  refine CallW.of1 0 (o := cro v s 0 (-1)) hC rfl rfl rfl rfl ?_
  rintro ae O ⟨c, a', rfl, hcl, hO⟩
  cases hF : clsF s with
  | error p =>
    rw [hF] at hO
    simp only at hO
    refine ⟨_, hO, rfl, ?_, ?_⟩
    · rfl
    refine gos ?_
    refine AC.step tab ?_
    refine gos ?_
    refine DrawW.L ?_
    refine gos ?_
    refine RetW.plain (by simp) ?_
    rfl
  | ok c' =>
    rw [hF] at hO
    simp only at hO
    obtain ⟨rfl, hO⟩ := hO
    refine ⟨_, hO, rfl, ?_, ?_⟩
    · rfl
    refine gos ?_
    refine AC.step tab ?_
    refine gos ?_
    refine AC.go tab ?_
    refine gos ?_
    refine RetW.plain (by simp) ?_
    rfl
end Go.Proofs.YtijdnjngfkohfaaGreatDoor

namespace Go.Proofs.YtijdnjngfkohfaaGreatDoor
open Go Go.Abs
set_option linter.unusedVariables false
set_option linter.unusedSimpArgs false
def Rd.ok (r : Rd) : Prop := r.p ≤ r.s.length
def Keeps {α : Type} (f : Rd → α × Rd) : Prop := ∀ r, r.ok → (f r).2.ok ∧ (f r).2.s = r.s
theorem keeps_rtn {α : Type} (a : α) : Keeps (rtn a) := fun r h => ⟨h, rfl⟩
theorem keeps_bnd {α β : Type} {f : Rd → α × Rd} {g : α → Rd → β × Rd} (h1 : Keeps f) (h2 : ∀ a, Keeps (g a)) : Keeps (bnd f g) := fun r h => by
  obtain ⟨a1, a2⟩ := h1 r h
  obtain ⟨b1, b2⟩ := h2 (f r).1 (f r).2 a1
  exact ⟨b1, b2.trans a2⟩
theorem numG_keeps : ∀ (k : Nat) (r : Rd) (n sh : Nat), r.ok → (numG k r n sh).2.ok ∧ (numG k r n sh).2.s = r.s
  | 0, r, n, sh, h => ⟨h, rfl⟩
  | k + 1, r, n, sh, h => by
    rw [numG]
    cases hb : r.s[r.p]? with
    | none => exact ⟨h, rfl⟩
    | some b =>
      have hlt := (List.getElem?_eq_some_iff.1 hb).1
      have h1 : Rd.ok { r with p := r.p + 1 } := by show r.p + 1 ≤ r.s.length; omega
      simp only
      split
      · exact ⟨h, rfl⟩
      split
      · split
        · exact ⟨h1, rfl⟩
        · exact ⟨h1, rfl⟩
      · exact numG_keeps k _ _ _ h1
theorem numG_lt : ∀ (k : Nat) (r : Rd) (n sh : Nat), n < 2 ^ sh → sh % 7 = 0 → (numG k r n sh).1 < 9223372036854775808
  | 0, r, n, sh, h, h7 => by simp [numG]
  | k + 1, r, n, sh, h, h7 => by
    rw [numG]
    cases hb : r.s[r.p]? with
    | none => simp
    | some b =>
      simp only
      split
      · simp
      rename_i h56
      have h2 : ∀ x, x < 128 → n + x * 2 ^ sh < 2 ^ (sh + 7) := fun x hx => by
        rw [Nat.pow_add]
        have : x * 2 ^ sh ≤ 127 * 2 ^ sh := Nat.mul_le_mul_right _ (by omega)
        omega
      have h3 : 2 ^ (sh + 7) ≤ 2 ^ 63 := Nat.pow_le_pow_right (by decide) (by omega)
      have h4 : (2 : Nat) ^ 63 = 9223372036854775808 := by decide
      split
      · rename_i hlt
        split
        · simp
        · have := h2 b.toNat hlt
          show n + b.toNat * 2 ^ sh < _
          omega
      · exact numG_lt k _ _ _ (h2 _ (Nat.mod_lt _ (by decide))) (by omega)
theorem num_keeps : Keeps numRd := fun r h => by
  unfold numRd
  split
  · exact ⟨h, rfl⟩
  · exact numG_keeps _ _ _ _ h
theorem numRd_lt (r : Rd) : (numRd r).1 < 9223372036854775808 := by
  unfold numRd
  split
  · simp
  · exact numG_lt _ _ _ _ (by simp) rfl
theorem text_keeps : Keeps textRd := fun r h => by
  obtain ⟨a1, a2⟩ := num_keeps r h
  unfold textRd
  simp only
  split
  · exact ⟨a1, a2⟩
  · rename_i hn
    simp only [not_or] at hn
    refine ⟨?_, a2⟩
    show (numRd r).2.p + (numRd r).1 ≤ (numRd r).2.s.length
    have : (numRd r).2.p ≤ (numRd r).2.s.length := a1
    omega
theorem count_keeps (m : Nat) : Keeps (countRd m) := fun r h => by
  obtain ⟨a1, a2⟩ := num_keeps r h
  unfold countRd
  simp only
  split
  · exact ⟨a1, a2⟩
  · exact ⟨a1, a2⟩
theorem count_le (m : Nat) (r : Rd) : (countRd m r).1 ≤ m := by
  unfold countRd
  simp only
  split
  · simp
  · omega
theorem listG_keeps {α : Type} {one : Rd → α × Rd} (h1 : Keeps one) : ∀ n, Keeps (listG one n)
  | 0 => fun r h => ⟨h, rfl⟩
  | n + 1 => fun r h => by
    rw [listG]
    split
    · exact ⟨h, rfl⟩
    · obtain ⟨a1, a2⟩ := h1 r h
      obtain ⟨b1, b2⟩ := listG_keeps h1 n (one r).2 a1
      exact ⟨b1, b2.trans a2⟩
theorem listG_len {α : Type} {one : Rd → α × Rd} : ∀ (n : Nat) (r : Rd), (listG one n r).1.length ≤ n
  | 0, r => Nat.le_refl _
  | n + 1, r => by
    rw [listG]
    split
    · simp
    · have := listG_len (one := one) n (one r).2
      simp only [List.length_cons]
      omega
theorem list_keeps {α : Type} {one : Rd → α × Rd} (h1 : Keeps one) : Keeps (listRd one) := fun r h => by
  obtain ⟨a1, a2⟩ := count_keeps 65536 r h
  obtain ⟨b1, b2⟩ := listG_keeps h1 (countRd 65536 r).1 (countRd 65536 r).2 a1
  exact ⟨b1, b2.trans a2⟩
theorem txt_keeps : Keeps txtRd := keeps_bnd num_keeps fun _ => keeps_bnd text_keeps fun _ => keeps_rtn _
theorem txts_keeps : Keeps (listRd txtRd) := list_keeps txt_keeps
theorem row_keeps : Keeps rowRd := keeps_bnd num_keeps fun _ => keeps_bnd txts_keeps fun _ => keeps_rtn _
theorem unt_keeps : Keeps untRd := keeps_bnd text_keeps fun _ => keeps_bnd txts_keeps fun _ => keeps_rtn _
theorem cur_keeps : Keeps curRd := keeps_bnd text_keeps fun _ => keeps_bnd text_keeps fun _ => keeps_bnd text_keeps fun _ => keeps_bnd txts_keeps fun _ => keeps_bnd num_keeps fun _ => keeps_bnd num_keeps fun _ => keeps_bnd num_keeps fun _ => keeps_bnd num_keeps fun _ => keeps_rtn _
theorem rows_keeps : Keeps (listRd rowRd) := list_keeps row_keeps
theorem unts_keeps : Keeps (listRd untRd) := list_keeps unt_keeps
theorem curs_keeps : Keeps (listRd curRd) := list_keeps cur_keeps
end Go.Proofs.YtijdnjngfkohfaaGreatDoor

namespace Go.Proofs.YtijdnjngfkohfaaGreatDoor
open Go Go.Abs
set_option linter.unusedVariables false
set_option linter.unusedSimpArgs false
theorem ofI63 {a : Nat} (ha : a < 9223372036854775808) : (BitVec.ofInt 64 (a : Int)).toNat = a := by
  rw [BitVec.ofInt_natCast, BitVec.toNat_ofNat]; exact Nat.mod_eq_of_lt (by omega)
theorem wrapN {a : Nat} (ha : a < 9223372036854775808) : IntKind.i64.wrap (a : Int) = (a : Int) := by
  unfold IntKind.wrap
  simp only [IntKind.bits, IntKind.signed]
  simp
  omega
theorem andN {a b : Nat} (ha : a < 9223372036854775808) (hb : b < 9223372036854775808) : IntKind.i64.wrap (BitVec.ofInt IntKind.i64.bits (a : Int) &&& BitVec.ofInt IntKind.i64.bits (b : Int)).toNat = ((a &&& b : Nat) : Int) := by
  have hx : a &&& b ≤ b := Nat.and_le_right
  show IntKind.i64.wrap (((BitVec.ofInt 64 (a : Int) &&& BitVec.ofInt 64 (b : Int)).toNat : Nat) : Int) = _
  rw [BitVec.toNat_and, ofI63 ha, ofI63 hb, wrapN (by omega)]
theorem orN {a b : Nat} (ha : a < 9223372036854775808) (hb : b < 9223372036854775808) : IntKind.i64.wrap (BitVec.ofInt IntKind.i64.bits (a : Int) ||| BitVec.ofInt IntKind.i64.bits (b : Int)).toNat = ((a ||| b : Nat) : Int) := by
  have hx : a ||| b < 2 ^ 63 := Nat.or_lt_two_pow (by omega) (by omega)
  show IntKind.i64.wrap (((BitVec.ofInt 64 (a : Int) ||| BitVec.ofInt 64 (b : Int)).toNat : Nat) : Int) = _
  rw [BitVec.toNat_or, ofI63 ha, ofI63 hb, wrapN (by omega)]
theorem and127 {n : Nat} (hn : n < 9223372036854775808) : IntKind.i64.wrap (BitVec.ofInt IntKind.i64.bits (n : Int) &&& BitVec.ofInt IntKind.i64.bits 127).toNat = ((n % 128 : Nat) : Int) := by
  have h := andN hn (b := 127) (by decide)
  have h2 : n &&& 127 = n % 128 := Nat.and_two_pow_sub_one_eq_mod n 7
  rw [h2] at h
  exact h
theorem or128 {n : Nat} (hn : n < 128) : IntKind.i64.wrap (BitVec.ofInt IntKind.i64.bits (n : Int) ||| BitVec.ofInt IntKind.i64.bits 128).toNat = ((n + 128 : Nat) : Int) := by
  have h := orN (a := n) (b := 128) (by omega) (by decide)
  have h2 : n ||| 128 = n + 128 := by
    have := Nat.two_pow_add_eq_or_of_lt (i := 7) (b := n) (by omega) 1
    rw [Nat.or_comm, show (128 : Nat) = 2 ^ 7 * 1 by rfl, ← this]
    omega
  rw [h2] at h
  exact h
theorem byte_of {n : Nat} (hn : n < 256) : IntKind.u8.wrap (n : Int) = ((UInt8.ofNat n).toNat : Int) := by
  rw [UInt8.toNat_ofNat']
  unfold IntKind.wrap
  simp only [IntKind.bits, IntKind.signed]
  simp
theorem u8and127 (b : UInt8) : IntKind.u8.wrap (BitVec.ofInt IntKind.u8.bits (b.toNat : Int) &&& BitVec.ofInt IntKind.u8.bits 127).toNat = ((b.toNat % 128 : Nat) : Int) := by
  have : ∀ u : Fin 256, IntKind.u8.wrap (BitVec.ofInt IntKind.u8.bits (u.val : Int) &&& BitVec.ofInt IntKind.u8.bits 127).toNat = ((u.val % 128 : Nat) : Int) := by decide +kernel
  exact this ⟨b.toNat, b.toNat_lt⟩
theorem pow56 {sh : Nat} (h : sh ≤ 56) : 2 ^ sh ≤ 72057594037927936 := Nat.pow_le_pow_right (by decide) h
theorem shl7 {x sh : Nat} (hx : x < 128) (hs : sh ≤ 56) : IntKind.i64.wrap ((x : Int) * 2 ^ (min ((sh : Nat) : Int).toNat IntKind.i64.bits)) = ((x * 2 ^ sh : Nat) : Int) := by
  have hb : IntKind.i64.bits = 64 := rfl
  have h1 := pow56 hs
  have h2 : x * 2 ^ sh ≤ 127 * 72057594037927936 := Nat.mul_le_mul (by omega) h1
  rw [hb, Int.toNat_natCast, Nat.min_eq_left (by omega), show ((2 : Int) ^ sh) = ((2 ^ sh : Nat) : Int) by push_cast; rfl, ← Int.natCast_mul, wrapN (by omega)]
theorem or_add {n x sh : Nat} (hn : n < 2 ^ sh) (hx : x < 128) (hs : sh ≤ 56) : IntKind.i64.wrap (BitVec.ofInt IntKind.i64.bits (n : Int) ||| BitVec.ofInt IntKind.i64.bits ((x * 2 ^ sh : Nat) : Int)).toNat = ((n + x * 2 ^ sh : Nat) : Int) := by
  have h1 := pow56 hs
  have h2 : x * 2 ^ sh ≤ 127 * 72057594037927936 := Nat.mul_le_mul (by omega) h1
  rw [orN (by omega) (by omega)]
  have := Nat.two_pow_add_eq_or_of_lt hn x
  rw [Nat.or_comm, Nat.mul_comm x, ← this, Nat.add_comm]
theorem acc_lt {n x sh : Nat} (hn : n < 2 ^ sh) (hx : x < 128) : n + x * 2 ^ sh < 2 ^ (sh + 7) := by
  rw [Nat.pow_add]
  have : x * 2 ^ sh ≤ 127 * 2 ^ sh := Nat.mul_le_mul_right _ (by omega)
  omega
end Go.Proofs.YtijdnjngfkohfaaGreatDoor

namespace Go.Proofs.YtijdnjngfkohfaaGreatDoor
open Go Go.Abs
attribute [local irreducible] DrawW CallW RetW AC Does CmpW
variable {G : Globs}
theorem byteEs_snoc (l : List UInt8) (b : UInt8) : byteEs' (l ++ [b]) = byteEs' l ++ [[.int .u8 (b.toNat : Int)]] := by simp [byteEs']
theorem byteEs_app (l s : List UInt8) : byteEs' (l ++ s) = byteEs' l ++ byteEs' s := by simp [byteEs']
theorem hi128 {m : Nat} (hm : m < 9223372036854775808) : IntKind.u8.wrap (IntKind.i64.wrap (BitVec.ofInt IntKind.i64.bits (IntKind.i64.wrap (BitVec.ofInt IntKind.i64.bits (m : Int) &&& BitVec.ofInt IntKind.i64.bits 127).toNat) ||| BitVec.ofInt IntKind.i64.bits 128).toNat) = ((UInt8.ofNat (m % 128 + 128)).toNat : Int) := by
  rw [and127 hm, or128 (Nat.mod_lt _ (by decide)), byte_of (by omega)]
theorem shr7 (m : Nat) : Int.fdiv (m : Int) (2 ^ (min (Int.toNat 7) IntKind.i64.bits)) = ((m / 128 : Nat) : Int) := by
  rw [show (2 : Int) ^ (min (Int.toNat 7) IntKind.i64.bits) = ((128 : Nat) : Int) from rfl, Int.fdiv_eq_ediv_of_nonneg _ (by omega)]; rfl
theorem WNum_does (v rv : Nat) (n : Int) (l : List UInt8) (hn : n < 9223372036854775808) (hl : l.length < 100000) : Does Tryz.prog G 75 [.ptr 0 v 0 0, .int .i64 n] [some (wrtO 167 v (.sl 1 rv)), some ⟨rv, 5, 1, byteEs' l⟩]
    fun ae O => ae = .ret (.ptr 0 v 0 0) ∧ ∃ rv', O = [some (wrtO 167 v (.sl 1 rv')), some ⟨rv', 5, 1, byteEs' (l ++ numW n)⟩] := by
  have hmax : (if (0 : Int) > n then (0 : Int) else n) = ((n.toNat : Nat) : Int) := by omega
  have hN : n.toNat < 9223372036854775808 := by omega
  have h70 : n.toNat < 2 ^ (7 * 10) := Nat.lt_trans hN (by decide)
  refine Does.bodyA tab Tryz.func75 rfl rfl ?_
  refine AC.step tab ?_
  refine gos ?_
  refine AC.step tab ?_
  refine gos ?_
  rw [hmax]
  refine gos ?_
  refine AC.cutF tab (fun e h => ∃ (k m rv' : Nat) (l' : List UInt8), k ≤ 9 ∧ m ≤ 127 ∧ l'.length ≤ l.length + 10 ∧ l ++ numW n = l' ++ [UInt8.ofNat m] ∧
    e = ([.ptr 0 v 0 0, .int .i64 m] ++ List.replicate 34 .any) ∧ h = [some (wrtO 167 v (.sl 1 rv')), some ⟨rv', 5, 1, byteEs' l'⟩]) ?_ ?_
  · refine gos ?_
    refine AC.loopC tab (fun f e h => ∃ (m rv' : Nat) (l' : List UInt8), 0 < f ∧ m < 2 ^ (7 * f) ∧ m < 9223372036854775808 ∧ l'.length + f = l.length + 10 ∧ l ++ numW n = l' ++ numL f m ∧
        e = ([.ptr 0 v 0 0, .int .i64 m] ++ List.replicate 34 .any) ∧ h = [some (wrtO 167 v (.sl 1 rv')), some ⟨rv', 5, 1, byteEs' l'⟩])
      10 ⟨_, fgts, n.toNat, rv, l, by omega, h70, hN, rfl, rfl, rfl, rfl⟩ ?_
    rintro f e h ⟨m, rv', l', hf0, hm, hm2, hlen, hF, rfl, rfl⟩
    obtain ⟨f, rfl⟩ : ∃ g, f = g + 1 := ⟨f - 1, by omega⟩
    refine gos ?_
    by_cases hlt : m ≤ 127
    · refine CmpW.f (by simp; omega) ?_
      refine gos ?_
      rw [numL, if_pos hlt] at hF
      exact ⟨_, 2, fgts, 0, m, rv', l', by omega, hlt, by omega, hF, rfl, rfl⟩
    · refine CmpW.t (by simp; omega) ?_
      rw [numL, if_neg hlt] at hF
      have hf1 : 0 < f := by
        rcases Nat.eq_zero_or_pos f with h | h
        · subst h; simp at hm; omega
        · exact h
      have hm' : m / 128 < 2 ^ (7 * f) := by
        rw [Nat.div_lt_iff_lt_mul (by decide)]
        have : 7 * (f + 1) = 7 * f + 7 := by omega
        rw [this, Nat.pow_add] at hm
        exact hm
      have hB := hi128 hm2
      have hS := shr7 m
      have hbl : (byteEs' l').length = l'.length := by simp [byteEs']
      refine gos ?_
      intro v3
      refine gos ?_
      refine And.intro (And.intro (fun y hy => by rcases List.mem_singleton.1 hy with rfl; rfl) (fun y hy => by rcases List.mem_singleton.1 hy with rfl; rfl)) ?_; refine And.intro (And.intro rfl trivial) ?_
      refine gos ?_
      refine And.intro (by simp [byteEs', maxLen, ti5]; omega) ?_
      intro v4
      refine gos ?_
      refine And.intro (by decide) ⟨((m / 128 : Nat) : Int), hS, ?_⟩
      refine gos ?_
      refine ⟨f, _, 2, by omega, fgts, m / 128, v4, l' ++ [UInt8.ofNat (m % 128 + 128)], hf1, hm', by omega, by simp; omega, by rw [hF]; simp, rfl, ?_⟩
      rw [byteEs_snoc, ← hB]
      rfl
  rintro e h ⟨k, m, rv', l', hk, hm, hlen, hF, rfl, rfl⟩
  have hB : IntKind.u8.wrap (m : Int) = ((UInt8.ofNat m).toNat : Int) := byte_of (by omega)
  refine AC.go tab ?_
  refine gos ?_
  intro v3
  refine gos ?_
  refine And.intro (And.intro (fun y hy => by rcases List.mem_singleton.1 hy with rfl; rfl) (fun y hy => by rcases List.mem_singleton.1 hy with rfl; rfl)) ?_; refine And.intro (And.intro rfl trivial) ?_
  refine gos ?_
  refine And.intro (by simp [byteEs', maxLen, ti5]; omega) ?_
  intro v4
  refine gos ?_
  refine RetW.plain (by simp) ?_
  refine ⟨rfl, v4, ?_⟩
  rw [hF, byteEs_snoc, ← hB]
  rfl
theorem WText_does (v rv : Nat) (s l : List UInt8) (hs : s.length < 100000) (hl : l.length < 90000) : Does Tryz.prog G 74 [.ptr 0 v 0 0, .str s] [some (wrtO 167 v (.sl 1 rv)), some ⟨rv, 5, 1, byteEs' l⟩]
    fun ae O => ae = .ret (.ptr 0 v 0 0) ∧ ∃ rv', O = [some (wrtO 167 v (.sl 1 rv')), some ⟨rv', 5, 1, byteEs' (l ++ textW s)⟩] := by
  have h10 := len_numL 10 (s.length : Int).toNat
  refine Does.bodyA tab Tryz.func74 rfl rfl ?_
  refine AC.step tab ?_
  refine gos ?_
  refine AC.step tab ?_
  refine gos ?_
  refine CallW.wrt (i := 0) (j := 1) (by decide) rfl rfl (WNum_does v rv s.length l (by omega) (by omega)) rfl (fun rv' => ?_)
  refine gos ?_
  refine AC.go tab ?_
  refine gos ?_
  refine And.intro (by have h11 := len_numL 10 s.length; simp [byteEs', numW]; omega) ?_
  intro v4
  refine gos ?_
  refine RetW.plain (by simp) ?_
  exact ⟨rfl, v4, by simp [byteEs', textW]; rfl⟩
theorem WString_does (v rv : Nat) (l : List UInt8) (hl : l.length < 200000) : Does Tryz.prog G 78 [.ptr 0 v 0 0] [some (wrtO 167 v (.sl 1 rv)), some ⟨rv, 5, 1, byteEs' l⟩]
    fun ae O => ae = .ret (.str l) ∧ O = [some (wrtO 167 v (.sl 1 rv)), some ⟨rv, 5, 1, byteEs' l⟩] := by
  refine Does.bodyA tab Tryz.func78 rfl rfl ?_
  refine AC.step tab ?_
  refine gos ?_
  refine AC.go tab ?_
  refine gos ?_
  dsimp only
  refine gos ?_
  refine RetW.plain (by simp) ?_
  exact ⟨rfl, rfl⟩
end Go.Proofs.YtijdnjngfkohfaaGreatDoor
