/- The reader of rules: relations that all hold, categories, samples. -/
import Derived.Test.YtjjppmbojcgdgaaGreatDoorJ10
import Derived.Test.YtjjppmbojcgdgaaGreatDoorJ09
import Derived.Test.YtjjppmbojcgdgaaGreatDoorJ11
set_option linter.unusedVariables false
set_option linter.unusedSimpArgs false
set_option maxRecDepth 100000
set_option maxHeartbeats 4000000

namespace Go.Proofs.YtjjppmbojcgdgaaGreatDoor
open Go Go.Abs
attribute [local irreducible] DrawW CallW RetW AC Does CmpW
set_option maxRecDepth 100000
variable {G : Globs}
theorem whoL_keeps (s : List UInt8) : ∀ f a N cs, a ≤ s.length → (whoL s f a N cs).2.1.mnf = N.mnf ∧ (whoL s f a N cs).2.1.mxf = N.mxf ∧ a ≤ (whoL s f a N cs).1 ∧ (whoL s f a N cs).1 ≤ s.length
  | 0, a, N, cs, h => by simp [whoL, h]
  | f + 1, a, N, cs, h => by
    unfold whoL
    split
    · rename_i hp
      have hle := pre_le hp.2 (by simp)
      simp only [List.length_cons, List.length_nil] at hle
      have := whoL_keeps s f (a + 1) { N with hash := N.hash + 1 } cs (by omega)
      simp only at this ⊢; omega
    split
    · rename_i hp
      have hle := pre_le hp (by simp)
      simp only [List.length_cons, List.length_nil] at hle
      have := whoL_keeps s f (a + 1) { N with mi := N.mi + 1 } cs (by omega)
      simp only at this ⊢; omega
    split
    · rename_i hp
      have hle := pre_le hp.2 (by simp)
      simp only [List.length_cons, List.length_nil] at hle
      have := whoL_keeps s f (a + 1) N (cs ++ [N.hash + N.mi]) (by omega)
      omega
    · simp [h]
theorem grpF_keeps {p : Nat} {cs : List Nat} {N N' : Num} (h : grpF p cs N = some N') : N'.mnf = N.mnf ∧ N'.mxf = N.mxf := by
  unfold grpF at h
  split at h
  · cases h
  split at h
  · simp at h; subst h; exact ⟨rfl, rfl⟩
  · split at h
    · cases h
    · simp at h; subst h; exact ⟨rfl, rfl⟩
  · split at h
    · cases h
    split at h
    · simp at h; subst h; exact ⟨rfl, rfl⟩
    · simp at h; subst h; exact ⟨rfl, rfl⟩
  · cases h
theorem whoF_keeps {s : List UInt8} {a b : Nat} {N N' : Num} (ha : a ≤ s.length) (h : whoF s a N = some (N', b)) : N'.mnf = N.mnf ∧ N'.mxf = N.mxf ∧ a ≤ b ∧ b ≤ s.length := by
  unfold whoF at h
  simp only [Option.map_eq_some_iff, Prod.mk.injEq] at h
  obtain ⟨q, h1, rfl, rfl⟩ := h
  have k := whoL_keeps s (s.length + 1 - a) a N [] ha
  have k2 := grpF_keeps h1
  exact ⟨k2.1.trans k.1, k2.2.trans k.2.1, k.2.2.1, k.2.2.2⟩
def cntN (s : List UInt8) (c : UInt8) : Nat → Nat → Nat
  | 0, _ => 0
  | f + 1, a => if pre s a [c] then cntN s c f (a + 1) + 1 else 0
theorem cntN_le (s : List UInt8) (c : UInt8) : ∀ f a, a ≤ s.length → a + cntN s c f a ≤ s.length
  | 0, a, h => by simp [cntN]; exact h
  | f + 1, a, h => by
    unfold cntN
    split
    · rename_i hp
      have h1 := pre_le hp (by simp)
      simp only [List.length_cons, List.length_nil] at h1
      have := cntN_le s c f (a + 1) (by omega)
      omega
    · simpa using h
def numF (s : List UInt8) (a : Nat) : Except Nat (Num × Nat) :=
  match whoF s a Num.zero with
  | none => .error (whoL s (s.length + 1 - a) a Num.zero []).1
  | some (N, b) =>
    if pre s b [46] then
      if cntN s 48 s.length (b + 1) + cntN s 35 s.length (b + 1 + cntN s 48 s.length (b + 1)) = 0 then .error (b + 1 + cntN s 48 s.length (b + 1) + cntN s 35 s.length (b + 1 + cntN s 48 s.length (b + 1)))
      else .ok ({ N with mnf := cntN s 48 s.length (b + 1), mxf := cntN s 48 s.length (b + 1) + cntN s 35 s.length (b + 1 + cntN s 48 s.length (b + 1)) }, b + 1 + cntN s 48 s.length (b + 1) + cntN s 35 s.length (b + 1 + cntN s 48 s.length (b + 1)))
    else .ok (N, b)
theorem number_does (s : List UInt8) (a ver pv : Nat) (x : Aff) (hx : x.ok) (two : Bool) (ha : a ≤ s.length) (hs : s.length < 100000) :
    Does Tryz.prog G 245 [.ptr 0 ver 0 0, .ptr 1 pv 0 0] [some (rdr ver s a), some (patO pv x two Num.zero)] fun ae O => match numF s a with
      | .error b => ae = .panic (faultV b)
      | .ok r => ae = .ret (.tuple []) ∧ O = [some (rdr ver s r.2), some (patO pv x two r.1)] := by
  refine Does.body tab Tryz.func245 rfl rfl ?_
  refine gos ?_
  refine CallW.of2 0 1 (whole_does s a ver pv x hx two Num.zero ha hs ⟨rfl, rfl⟩) (by decide) rfl rfl rfl (patO_closed hx) rfl rfl ?_
  intro ae O hw
  unfold numF
  cases hwf : whoF s a Num.zero with
  | none =>
    rw [hwf] at hw
    obtain ⟨b, rfl, rfl⟩ := hw
    refine ⟨rfl, fun s' hl => ?_⟩
    refine gos ?_
    exact ⟨by rw [hl]; simp, rfl⟩
  | some r =>
    obtain ⟨N, b⟩ := r
    rw [hwf] at hw
    obtain ⟨rfl, rfl⟩ := hw
    obtain ⟨n1, n2, n3, n4⟩ := whoF_keeps ha hwf
    refine ⟨_, _, rfl, rfl, patO_closed hx, rfl, ?_⟩
    refine gos ?_
    cases hd : pre s b [46] with
    | false =>
      refine CallW.meth 0 (take_no hd n4 _) rfl rfl rfl rfl rfl rfl ?_
      refine gos ?_
      refine RetW.plain (by simp) ?_
      simp only [hd, if_neg (show ¬ (false = true) by simp)]
      exact ⟨trivial, rfl⟩
    | true =>
      have hle := pre_le hd (by simp)
      simp only [List.length_cons, List.length_nil] at hle
      simp only [hd, if_true]
      refine CallW.meth 0 (take_yes 1 rfl hd hle (by omega) _) rfl rfl rfl rfl rfl rfl ?_
      refine gos ?_
      refine AC.loopC tab (fun n e h => ∃ k, s.length < n + (b + 1 + k) ∧ b + 1 + k ≤ s.length ∧ cntN s 48 s.length (b + 1) = k + cntN s 48 n (b + 1 + k) ∧
        e = [.ptr 0 ver 0 0, .ptr 1 pv 0 0] ++ List.replicate 40 .any ∧ h = [some (rdr ver s (b + 1 + k)), some (patO pv x two { N with mnf := k })]) s.length ⟨_, fgts, 0, by omega, by omega, by simp, rfl, ?_⟩ ?_
      · obtain ⟨q1, q2, q3, q4, q5, q6⟩ := N
        obtain rfl : q3 = 0 := n1
        rfl
      rintro n e h ⟨k, hn, hk, hc, rfl, rfl⟩
      obtain ⟨n, rfl⟩ : ∃ m, n = m + 1 := ⟨n - 1, by omega⟩
      simp only [cntN] at hc
      refine gos ?_
      cases hz : pre s (b + 1 + k) [48] with
      | true =>
        have hle2 := pre_le hz (by simp)
        simp only [List.length_cons, List.length_nil] at hle2
        rw [if_pos hz] at hc
        refine CallW.meth 0 (take_yes 1 rfl hz hle2 (by omega) _) rfl rfl rfl rfl rfl rfl ?_
        refine gos ?_
        refine ⟨n, _, 2, by omega, fgts, k + 1, by omega, by omega, ?_, rfl, rfl⟩
        rw [hc, show b + 1 + (k + 1) = b + 1 + k + 1 by omega]; omega
      | false =>
        rw [if_neg (by simp [hz])] at hc
        have hkz : cntN s 48 s.length (b + 1) = k := by omega
        rw [hkz]
        refine CallW.meth 0 (take_no hz hk _) rfl rfl rfl rfl rfl rfl ?_
        refine gos ?_
        refine AC.loopC tab (fun n e h => ∃ j, s.length < n + (b + 1 + k + j) ∧ b + 1 + k + j ≤ s.length ∧ cntN s 35 s.length (b + 1 + k) = j + cntN s 35 n (b + 1 + k + j) ∧
          e = [.ptr 0 ver 0 0, .ptr 1 pv 0 0] ++ List.replicate 40 .any ∧ h = [some (rdr ver s (b + 1 + k + j)), some (patO pv x two { N with mnf := k, mxf := k + j })]) s.length ⟨_, fgts, 0, by omega, by omega, by simp, rfl, rfl⟩ ?_
        rintro n' e h ⟨j, hn', hj, hc', rfl, rfl⟩
        obtain ⟨n', rfl⟩ : ∃ m, n' = m + 1 := ⟨n' - 1, by omega⟩
        simp only [cntN] at hc'
        refine gos ?_
        cases hy : pre s (b + 1 + k + j) [35] with
        | true =>
          have hle3 := pre_le hy (by simp)
          simp only [List.length_cons, List.length_nil] at hle3
          rw [if_pos hy] at hc'
          refine CallW.meth 0 (take_yes 1 rfl hy hle3 (by omega) _) rfl rfl rfl rfl rfl rfl ?_
          refine gos ?_
          refine ⟨n', _, 2, by omega, fgts, j + 1, by omega, by omega, ?_, rfl, rfl⟩
          rw [hc', show b + 1 + k + (j + 1) = b + 1 + k + j + 1 by omega]; omega
        | false =>
          rw [if_neg (by simp [hy])] at hc'
          have hjz : cntN s 35 s.length (b + 1 + k) = j := by omega
          rw [hjz]
          refine CallW.meth 0 (take_no hy hj _) rfl rfl rfl rfl rfl rfl ?_
          refine gos ?_
          by_cases h0 : k + j = 0
          · refine CmpW.t (by simp; omega) ?_
            refine gos ?_
            refine CallW.of1 0 (fail_does s _ ver) rfl rfl rfl rfl ?_
            rintro ae O ⟨rfl, rfl⟩
            refine ⟨_, rfl, rfl, rfl, ?_⟩
            refine gos ?_
            refine ⟨by simp, ?_⟩
            simp only [if_pos h0]
          · refine CmpW.f (by simp; omega) ?_
            refine gos ?_
            refine RetW.plain (by simp) ?_
            simp only [if_neg h0]
            exact ⟨trivial, rfl⟩
end Go.Proofs.YtjjppmbojcgdgaaGreatDoor

namespace Go.Proofs.YtjjppmbojcgdgaaGreatDoor
open Go Go.Abs
attribute [local irreducible] DrawW CallW RetW AC Does CmpW
set_option maxRecDepth 100000
theorem affL_le (s : List UInt8) : ∀ f a out ps b, a ≤ s.length → affL s f a out = some (ps, b) → b ≤ s.length
  | 0, a, out, ps, b, _, h => by simp [affL] at h
  | f + 1, a, out, ps, b, ha, h => by
    unfold affL at h
    split at h
    · rename_i hs
      exact affL_le s f _ _ ps b (signF_t ha hs).2.1 h
    · split at h
      · cases h
      · rename_i t ok b' hl
        split at h
        · rename_i hok
          have : ok = false := by simpa using hok
          subst this
          have := litF_f hl
          simp at h
          omega
        · rename_i hok
          have : ok = true := by simpa using hok
          subst this
          have h2 := litF_t ha hl
          split at h
          · exact affL_le s f _ _ ps b h2.2.1 h
          · exact affL_le s f _ _ ps b h2.2.1 h
theorem affF_le {s : List UInt8} {a : Nat} {ps : List Piece} {b : Nat} (ha : a ≤ s.length) (h : affF s a = some (ps, b)) : b ≤ s.length := affL_le s _ a [] ps b ha h
theorem numF_le {s : List UInt8} {a : Nat} {N : Num} {b : Nat} (ha : a ≤ s.length) (h : numF s a = .ok (N, b)) : b ≤ s.length := by
  unfold numF at h
  split at h
  · cases h
  · rename_i N' b' hw
    have k := whoF_keeps ha hw
    split at h
    · rename_i hp
      have hle := pre_le hp (by simp)
      simp only [List.length_cons, List.length_nil] at hle
      have k1 := cntN_le s 48 s.length (b' + 1) (by omega)
      have k2 := cntN_le s 35 s.length (b' + 1 + cntN s 48 s.length (b' + 1)) k1
      split at h
      · cases h
      · simp at h; omega
    · simp at h; omega
structure PatV where
  pre : List Piece
  suf : List Piece
  npre : List Piece
  nsuf : List Piece
  two : Bool
  N : Num
def encL (ps : List Piece) : AV := .fsl (ps.map encP)
def affV (v : PatV) : Aff := ⟨encL v.pre, encL v.suf, if v.two then encL v.npre else .nils, if v.two then encL v.nsuf else .nils⟩
def encV (v : PatV) : AV := .agg (patCells (affV v) v.two v.N)
def affE (s : List UInt8) (a : Nat) : Except Nat (List Piece × Nat) := match affF s a with
  | none => .error s.length
  | some r => .ok r
def endE (s : List UInt8) (a : Nat) (v : PatV) : Except Nat PatV := if a < s.length then .error a else .ok v
def patF (s : List UInt8) : Except Nat PatV :=
  match affE s 0 with
  | .error b => .error b
  | .ok (p, a1) => match numF s a1 with
    | .error b => .error b
    | .ok (N, a2) => match affE s a2 with
      | .error b => .error b
      | .ok (q, a3) =>
        if pre s a3 [59] then match affE s (a3 + 1) with
          | .error b => .error b
          | .ok (p', a5) => match numF s a5 with
            | .error b => .error b
            | .ok (_, a6) => match affE s a6 with
              | .error b => .error b
              | .ok (q', a7) => endE s a7 ⟨p, q, p', q', true, N⟩
        else endE s a3 ⟨p, q, [], [], false, N⟩
theorem affix_E {m : Int} (s : List UInt8) (a : Nat) (ha : a ≤ s.length) (hs : s.length < 1000000) (ver : Nat) :
    Does Tryz.prog (GL m) 244 [.ptr 0 ver 0 0] [some (rdr ver s a)] fun ae O => match affE s a with
      | .error b => ae = .panic (faultV b)
      | .ok r => ae = .ret (encL r.1) ∧ O = [some (rdr ver s r.2)] :=
  (affix_does s a ha hs ver).mono fun ae O h => by
    unfold affE
    cases hf : affF s a with
    | none => rw [hf] at h; exact h.1
    | some r => rw [hf] at h; exact h
theorem affE_le {s : List UInt8} {a : Nat} {ps : List Piece} {b : Nat} (ha : a ≤ s.length) (h : affE s a = .ok (ps, b)) : b ≤ s.length := by
  unfold affE at h
  split at h
  · cases h
  · rename_i r hr; simp at h; subst h; exact affF_le ha hr
set_option maxHeartbeats 4000000 in
theorem pattern_does {m : Int} (s : List UInt8) (ver : Nat) (hs : s.length < 100000) :
    Does Tryz.prog (GL m) 194 [.ptr 0 ver 0 0] [some (rdr ver s 0)] fun ae O => match patF s with
      | .error b => ae = .panic (faultV b)
      | .ok v => ae = .ret (encV v) := by
  refine Does.body tab Tryz.func194 rfl rfl ?_
  refine gos ?_
  intro v1
  refine gos ?_
  intro v2
  refine gos ?_
  intro v3
  refine gos ?_
  refine CallW.of1p 0 (affix_E s 0 (by omega) (by omega) ver) rfl rfl rfl rfl ?_
  intro ae O hA
  cases hE : affE s 0 with
  | error b =>
    rw [hE] at hA
    subst hA
    refine ⟨rfl, fun s' hl => ?_⟩
    refine gos ?_
    refine ⟨by rw [hl]; simp, ?_⟩
    simp only [patF, hE]
  | ok r =>
    obtain ⟨p, a1⟩ := r
    rw [hE] at hA
    obtain ⟨rfl, rfl⟩ := hA
    have h1 := affE_le (by omega) hE
    refine ⟨_, rfl, rfl, rfl, ?_⟩
    refine gos ?_
    refine CallW.of2 0 2 (number_does s a1 ver v2 ⟨encL p, .nils, .nils, .nils⟩ ⟨rfl, rfl, rfl, rfl⟩ false h1 (by omega)) (by decide) rfl rfl rfl (patO_closed ⟨rfl, rfl, rfl, rfl⟩) rfl rfl ?_
    intro ae O hA
    have hE1 := hE
    cases hE : numF s a1 with
    | error b =>
      rw [hE] at hA
      subst hA
      refine ⟨rfl, fun s' hl => ?_⟩
      refine gos ?_
      refine ⟨by rw [hl]; simp, ?_⟩
      simp only [patF, hE1, hE]
    | ok r =>
      obtain ⟨N, a2⟩ := r
      rw [hE] at hA
      obtain ⟨rfl, rfl⟩ := hA
      have h2 := numF_le h1 hE
      refine ⟨_, _, rfl, rfl, patO_closed ⟨rfl, rfl, rfl, rfl⟩, rfl, ?_⟩
      refine gos ?_
      refine CallW.of1p 0 (affix_E s a2 h2 (by omega) ver) rfl rfl rfl rfl ?_
      intro ae O hA
      have hE2 := hE
      cases hE : affE s a2 with
      | error b =>
        rw [hE] at hA
        subst hA
        refine ⟨rfl, fun s' hl => ?_⟩
        refine gos ?_
        refine ⟨by rw [hl]; simp, ?_⟩
        simp only [patF, hE1, hE2, hE]
      | ok r =>
        obtain ⟨q, a3⟩ := r
        rw [hE] at hA
        obtain ⟨rfl, rfl⟩ := hA
        have h3 := affE_le h2 hE
        have hE3 := hE
        refine ⟨_, rfl, rfl, rfl, ?_⟩
        refine gos ?_
        cases h4 : pre s a3 [59] with
        | false =>
          refine CallW.meth 0 (take_no h4 h3 _) rfl rfl rfl rfl rfl rfl ?_
          refine gos ?_
          refine DrawW.L ?_
          refine gos ?_
          have hp : patF s = endE s a3 ⟨p, q, [], [], false, N⟩ := by simp only [patF, hE1, hE2, hE3, h4]; rfl
          rw [hp]
          by_cases hb : a3 < s.length
          · refine CmpW.t (by simp; omega) ?_
            refine gos ?_
            refine CallW.of1 0 (fail_does s a3 ver) rfl rfl rfl rfl ?_
            rintro ae O ⟨rfl, rfl⟩
            refine ⟨_, rfl, rfl, rfl, ?_⟩
            refine gos ?_
            refine ⟨by simp, ?_⟩
            simp only [endE, if_pos hb]
          · refine CmpW.f (by simp; omega) ?_
            refine gos ?_
            refine RetW.plain (by simp) ?_
            simp only [endE, if_neg hb]
            rfl
        | true =>
          have hle := pre_le h4 (by simp)
          simp only [List.length_cons, List.length_nil] at hle
          refine CallW.meth 0 (take_yes 1 rfl h4 hle (by omega) _) rfl rfl rfl rfl rfl rfl ?_
          refine gos ?_
          refine CallW.of1p 0 (affix_E s (a3 + 1) hle (by omega) ver) rfl rfl rfl rfl ?_
          intro ae O hA
          cases hE : affE s (a3 + 1) with
          | error b =>
            rw [hE] at hA
            subst hA
            refine ⟨rfl, fun s' hl => ?_⟩
            refine gos ?_
            refine ⟨by rw [hl]; simp, ?_⟩
            simp only [patF, hE1, hE2, hE3, h4, hE, if_true]
          | ok r =>
            obtain ⟨p', a5⟩ := r
            rw [hE] at hA
            obtain ⟨rfl, rfl⟩ := hA
            have h5 := affE_le hle hE
            have hE5 := hE
            refine ⟨_, rfl, rfl, rfl, ?_⟩
            refine gos ?_
            refine CallW.of2 0 3 (number_does s a5 ver v3 ⟨.nils, .nils, .nils, .nils⟩ ⟨rfl, rfl, rfl, rfl⟩ false h5 (by omega)) (by decide) rfl rfl rfl (patO_closed ⟨rfl, rfl, rfl, rfl⟩) rfl rfl ?_
            intro ae O hA
            cases hE : numF s a5 with
            | error b =>
              rw [hE] at hA
              subst hA
              refine ⟨rfl, fun s' hl => ?_⟩
              refine gos ?_
              refine ⟨by rw [hl]; simp, ?_⟩
              simp only [patF, hE1, hE2, hE3, h4, hE5, hE, if_true]
            | ok r =>
              obtain ⟨N6, a6⟩ := r
              rw [hE] at hA
              obtain ⟨rfl, rfl⟩ := hA
              have h6 := numF_le h5 hE
              have hE6 := hE
              refine ⟨_, _, rfl, rfl, patO_closed ⟨rfl, rfl, rfl, rfl⟩, rfl, ?_⟩
              refine gos ?_
              refine CallW.of1p 0 (affix_E s a6 h6 (by omega) ver) rfl rfl rfl rfl ?_
              intro ae O hA
              cases hE : affE s a6 with
              | error b =>
                rw [hE] at hA
                subst hA
                refine ⟨rfl, fun s' hl => ?_⟩
                refine gos ?_
                refine ⟨by rw [hl]; simp, ?_⟩
                simp only [patF, hE1, hE2, hE3, h4, hE5, hE6, hE, if_true]
              | ok r =>
                obtain ⟨q', a7⟩ := r
                rw [hE] at hA
                obtain ⟨rfl, rfl⟩ := hA
                have h7 := affE_le h6 hE
                refine ⟨_, rfl, rfl, rfl, ?_⟩
                refine gos ?_
                refine DrawW.L ?_
                refine gos ?_
                have hp : patF s = endE s a7 ⟨p, q, p', q', true, N⟩ := by simp only [patF, hE1, hE2, hE3, h4, hE5, hE6, hE, if_true]
                rw [hp]
                by_cases hb : a7 < s.length
                · refine CmpW.t (by simp; omega) ?_
                  refine gos ?_
                  refine CallW.of1 0 (fail_does s a7 ver) rfl rfl rfl rfl ?_
                  rintro ae O ⟨rfl, rfl⟩
                  refine ⟨_, rfl, rfl, rfl, ?_⟩
                  refine gos ?_
                  refine ⟨by simp, ?_⟩
                  simp only [endE, if_pos hb]
                · refine CmpW.f (by simp; omega) ?_
                  refine gos ?_
                  refine RetW.plain (by simp) ?_
                  simp only [endE, if_neg hb]
                  rfl
end Go.Proofs.YtjjppmbojcgdgaaGreatDoor

namespace Go.Proofs.YtjjppmbojcgdgaaGreatDoor
open Go Go.Abs
attribute [local irreducible] DrawW CallW RetW AC Does CmpW
variable {G : Globs}
inductive IsL : AV → List Piece → Prop where
  | nil : IsL .nils []
  | made (ps : List Piece) : IsL (encL ps) ps
theorem len0 (qs : List Piece) : ((qs.length : Int) == 0) = decide (qs = []) := by
  cases qs with
  | nil => rfl
  | cons a l => simp; omega
theorem empty_does {a b : AV} {ps qs : List Piece} (ha : IsL a ps) (hb : IsL b qs) : Does Tryz.prog G 196 [.agg [a, b]] [] fun ae _ => ae = .ret (.bool (decide (ps = [] ∧ qs = []))) := by
  refine Does.body tab Tryz.func196 rfl rfl ?_
  cases ha <;> cases hb
  all_goals
    refine gos ?_
    intro v1
    refine gos ?_
  · refine RetW.plain (by simp) ?_
    rfl
  · refine CmpW.s ?_
    refine gos ?_
    refine RetW.plain (by simp) ?_
    simp [len0]
  · refine CmpW.split (fun hc => ?_) (fun hc => ?_)
    · refine gos ?_
      refine RetW.plain (by simp) ?_
      simpa using hc
    · refine gos ?_
      refine RetW.plain (by simp) ?_
      simpa using hc
  · refine CmpW.split (fun hc => ?_) (fun hc => ?_)
    · refine gos ?_
      refine CmpW.s ?_
      refine gos ?_
      refine RetW.plain (by simp) ?_
      have hc' : ps = [] := by simpa using hc
      simp [hc', len0]
    · refine gos ?_
      refine RetW.plain (by simp) ?_
      have hc' : ¬ ps = [] := by simpa using hc
      simp [hc']
end Go.Proofs.YtjjppmbojcgdgaaGreatDoor

namespace Go.Proofs.YtjjppmbojcgdgaaGreatDoor
open Go Go.Abs
attribute [local irreducible] DrawW CallW RetW AC Does CmpW
variable {G : Globs}
theorem iParseInt_does (l : List UInt8) (h0 : l ≠ []) (hl : l.length ≤ 6) (hx : ∀ c ∈ l, isHex c = true) : Does Tryz.prog G 316 [.str l, .int .i64 16, .int .i64 32] [] fun ae _ => ae = .ret (.tuple [.int .i64 (hexV l), .nili]) := by
  obtain ⟨c, hc⟩ : ∃ c, l[0]? = some c := ⟨_, List.getElem?_eq_getElem (List.length_pos_iff.2 h0)⟩
  have hch := hx c (List.mem_of_getElem? hc)
  have hcc := isHex_cases hch
  have hv : hexV l < 16777216 := by
    have h1 := hexV_lt l.length l rfl hx
    have h2 : 16 ^ l.length ≤ 16 ^ 6 := Nat.pow_le_pow_right (by omega) hl
    omega
  refine Does.bodyA tab Tryz.func316 rfl rfl ?_
  refine AC.step tab ?_
  refine gos ?_
  refine AC.step tab ?_
  refine gos ?_
  refine CmpW.f (by simpa using h0) ?_
  refine gos ?_
  refine AC.step tab ?_
  refine gos ?_
  refine AC.step tab ?_
  refine gos ?_
  refine And.intro (by decide) ⟨c, hc, ?_⟩
  refine gos ?_
  refine CmpW.f (by simp; omega) ?_
  refine gos ?_
  refine CmpW.f (by simp; omega) ?_
  refine gos ?_
  refine AC.step tab ?_
  refine gos ?_
  refine AC.step tab ?_
  refine gos ?_
  refine CallW.pure (iParseUint_does l h0 hl hx) rfl rfl ?_
  refine gos ?_
  refine AC.step tab ?_
  refine gos ?_
  refine AC.step tab ?_
  refine gos ?_
  refine AC.step tab ?_
  refine gos ?_
  refine And.intro ?_ ?_
  · decide
  refine gos ?_
  refine AC.step tab ?_
  refine gos ?_
  have hC : IntKind.u64.wrap (1 * 2 ^ min (IntKind.u64.wrap (32 - 1)).toNat IntKind.u64.bits) = 2147483648 := by decide
  rw [hC]
  refine CmpW.N ?_
  refine gos ?_
  refine AC.step tab ?_
  refine gos ?_
  refine AC.step tab ?_
  refine gos ?_
  have hW : IntKind.i64.wrap (hexV l : Int) = (hexV l : Int) := wrap_i64 (by omega) (by omega)
  refine AC.step tab ?_
  refine gos ?_
  refine AC.go tab ?_
  refine gos ?_
  refine RetW.plain (by simp) ?_
  first | rfl | (rw [hW])
theorem ParseInt_does (l : List UInt8) (h0 : l ≠ []) (hl : l.length ≤ 6) (hx : ∀ c ∈ l, isHex c = true) : Does Tryz.prog G 304 [.str l, .int .i64 16, .int .i64 32] [] fun ae _ => ae = .ret (.tuple [.int .i64 (hexV l), .nili]) := by
  refine Does.body tab Tryz.func304 rfl rfl ?_
  refine gos ?_
  refine CallW.pure (iParseInt_does l h0 hl hx) rfl rfl ?_
  refine gos ?_
  refine RetW.plain (by simp) ?_
  rfl
end Go.Proofs.YtjjppmbojcgdgaaGreatDoor

namespace Go.Proofs.YtjjppmbojcgdgaaGreatDoor
open Go Go.Abs
attribute [local irreducible] DrawW CallW RetW AC Does CmpW
theorem mdF_le {s : List UInt8} {a : Nat} (ha : a ≤ s.length) {m b : Nat} (h : mdF s a = .ok (m, b)) : b ≤ s.length ∧ a ≤ b := by
  have hb := bl_le ha
  unfold mdF at h
  split at h
  · rename_i hp
    have hle := pre_le hp (by simp)
    simp only [List.length_cons, List.length_nil] at hle
    split at h; · cases h
    rename_i v at_ c hv
    have := valF_le (by omega) hv
    split at h; · cases h
    simp only [Except.ok.injEq, Prod.mk.injEq] at h
    omega
  · simp only [Except.ok.injEq, Prod.mk.injEq] at h
    omega
theorem sgF_le {s : List UInt8} {a : Nat} (ha : a ≤ s.length) {m : Bool} {b : Nat} (h : sgF s a = .ok (m, b)) : b ≤ s.length ∧ a ≤ b := by
  have hb := bl_le ha
  have hb2 := bl_le hb.2
  unfold sgF at h
  split at h
  · rename_i hp
    have hle := pre_le hp (by simp)
    simp only [List.length_cons, List.length_nil] at hle
    simp only [Except.ok.injEq, Prod.mk.injEq] at h
    omega
  · split at h
    · rename_i hp
      have hle := pre_le hp (by simp)
      simp only [List.length_cons, List.length_nil] at hle
      simp only [Except.ok.injEq, Prod.mk.injEq] at h
      omega
    · cases h
theorem mrF_le {s : List UInt8} : ∀ (f a : Nat) (rs out : List (Nat × Nat)) (b : Nat), a ≤ s.length → mrF s f a rs = .ok (out, b) → b ≤ s.length ∧ a ≤ b
  | 0, a, rs, out, b, ha, h => by simp [mrF] at h; omega
  | f + 1, a, rs, out, b, ha, h => by
    have hb := bl_le ha
    unfold mrF at h
    split at h
    · rename_i hp
      have hle := pre_le hp (by simp)
      simp only [List.length_cons, List.length_nil] at hle
      split at h; · cases h
      rename_i r c hv
      have h1 := spaF_le (by omega) hv
      have := mrF_le f c _ out b h1.2 h
      omega
    · simp only [Except.ok.injEq, Prod.mk.injEq] at h
      omega
theorem relF_le {s : List UInt8} {a n : Nat} (ha : a ≤ s.length) {x : Rel} {b : Nat} (h : relF s a n = .ok (x, b)) : a < b ∧ b ≤ s.length ∧ n + 1 ≤ 200 := by
  have hb := bl_le ha
  unfold relF at h
  split at h; · cases h
  rename_i h1
  simp only [not_or] at h1
  have hl : bl s a + (wd s a).length ≤ s.length := tw_le _ hb.2
  split at h; · cases h
  split at h; · cases h
  rename_i hm
  have k1 := mdF_le (by omega) hm
  split at h; · cases h
  rename_i hg
  have k2 := sgF_le (by omega) hg
  split at h; · cases h
  rename_i hsp
  have k3 := spaF_le (by omega) hsp
  split at h; · cases h
  rename_i hmr
  have k4 := mrF_le _ _ _ _ _ (by omega) hmr
  simp only [Except.ok.injEq, Prod.mk.injEq] at h
  omega
def andS : List UInt8 := [97, 110, 100]
def alL (s : List UInt8) : Nat → Nat → Nat → List Rel → Except (Int × Nat) (List Rel × Nat × Nat)
  | 0, a, n, xs => .ok (xs, a, n)
  | f + 1, a, n, xs =>
    if wd s a = andS then match relF s (bl s a + 3) n with
      | .error r => .error r
      | .ok (x, b) => alL s f b (n + 1) (xs ++ [x])
    else .ok (xs, bl s a, n)
def allF (s : List UInt8) (a n : Nat) : Except (Int × Nat) (List Rel × Nat × Nat) := match relF s a n with
  | .error r => .error r
  | .ok (x, b) => alL s (s.length + 1 - b) b (n + 1) [x]
theorem alL_le {s : List UInt8} : ∀ (f a n : Nat) (xs out : List Rel) (b n' : Nat), a ≤ s.length → n ≤ 200 → alL s f a n xs = .ok (out, b, n') → b ≤ s.length ∧ a ≤ b ∧ n' ≤ 200
  | 0, a, n, xs, out, b, n', ha, hn, h => by simp [alL] at h; omega
  | f + 1, a, n, xs, out, b, n', ha, hn, h => by
    have hb := bl_le ha
    unfold alL at h
    split at h
    · rename_i hw
      have hl : bl s a + (wd s a).length ≤ s.length := tw_le _ hb.2
      rw [hw] at hl
      simp only [andS, List.length_cons, List.length_nil] at hl
      split at h; · cases h
      rename_i x c hv
      have h1 := relF_le (by omega) hv
      have := alL_le f c _ _ out b n' h1.2.1 h1.2.2 h
      omega
    · simp only [Except.ok.injEq, Prod.mk.injEq] at h
      omega
theorem allF_le {s : List UInt8} {a n : Nat} (ha : a ≤ s.length) {xs : List Rel} {b n' : Nat} (h : allF s a n = .ok (xs, b, n')) : a < b ∧ b ≤ s.length ∧ n' ≤ 200 := by
  unfold allF at h
  split at h; · cases h
  rename_i x c hv
  have h1 := relF_le ha hv
  have := alL_le _ _ _ _ _ _ _ h1.2.1 h1.2.2 h
  omega
theorem encRels_closed : ∀ rs : List Rel, closedLL (rs.map encRel) = true
  | [] => rfl
  | r :: rs => by simp [closedLL, encRel, closedL, closed]; exact encRels_closed rs
theorem next_t {G : Globs} {s t : List UInt8} {a : Nat} (c : Nat) (h : wd s a = t) (hc : bl s a + t.length = c) (n : Nat) (F : Fnd) (ha : a ≤ s.length) (hs : s.length < 100000) (ver : Nat) :
    Does Tryz.prog G 242 [.ptr 0 ver 0 0, .str t] [some (rro ver s a n F)] fun ae O => ae = .ret (.bool true) ∧ O = [some (rro ver s c n F)] := by
  have k := next_does (G := G) s t a n F ha hs ver
  simp only [h, decide_true, if_true, hc] at k
  exact k
theorem next_f {G : Globs} {s t : List UInt8} {a : Nat} (h : ¬ wd s a = t) (n : Nat) (F : Fnd) (ha : a ≤ s.length) (hs : s.length < 100000) (ver : Nat) :
    Does Tryz.prog G 242 [.ptr 0 ver 0 0, .str t] [some (rro ver s a n F)] fun ae O => ae = .ret (.bool false) ∧ O = [some (rro ver s (bl s a) n F)] := by
  have k := next_does (G := G) s t a n F ha hs ver
  simpa only [h, decide_false, if_false] using k
theorem all_does (m : Int) (s : List UInt8) (a n : Nat) (F : Fnd) (ha : a ≤ s.length) (hs : s.length < 100000) (hn : n ≤ 200) (ver : Nat) :
    Does Tryz.prog (GL m) 241 [.ptr 0 ver 0 0] [some (rro ver s a n F)] fun ae O => match allF s a n with
      | .error r => ae = .panic (rfault r)
      | .ok (xs, b, n') => ae = .ret (.fsl (xs.map encRel)) ∧ O = [some (rro ver s b n' F)] := by
  refine Does.bodyA tab Tryz.func241 rfl rfl ?_
  refine AC.step tab ?_
  refine gos ?_
  refine AC.step tab ?_
  refine gos ?_
  have r1 := rel_does m s a n F ha hs hn ver
  cases hR : relF s a n with
  | error r =>
    rw [hR] at r1
    simp only at r1
    refine CallW.pan1 0 r1 rfl rfl rfl rfl rfl (fun s' hl => ?_)
    refine gos ?_
    exact ⟨by rw [hl]; simp, by simp [allF, hR]⟩
  | ok q =>
  obtain ⟨x, b⟩ := q
  rw [hR] at r1
  simp only at r1
  have h1 := relF_le ha hR
  refine CallW.meth 0 r1 rfl rfl rfl rfl rfl rfl ?_
  refine gos ?_
  intro v1
  refine gos ?_
  refine AC.cutF tab (fun e h => ∃ (xs : List Rel) (b' n' vw : Nat), alL s (s.length + 1 - b) b (n + 1) [x] = .ok (xs, b', n') ∧ e = [.ptr 0 ver 0 0, .any, .any, .sl 1 vw] ++ List.replicate 11 .any ∧
    h = [some (rro ver s b' n' F), some ⟨vw, 220, 4, xs.map encRel⟩]) ?_ ?_
  · refine AC.loopC tab (fun f e h => ∃ (xs : List Rel) (b' n' vw : Nat), s.length < f + b' ∧ b' ≤ s.length ∧ n' ≤ 200 ∧ xs.length ≤ b' + 1 ∧ alL s (s.length + 1 - b) b (n + 1) [x] = alL s f b' n' xs ∧ e = [.ptr 0 ver 0 0, .any, .any, .sl 1 vw] ++ List.replicate 11 .any ∧
      h = [some (rro ver s b' n' F), some ⟨vw, 220, 4, xs.map encRel⟩]) (s.length + 1 - b) ⟨_, fgts, [x], b, n + 1, v1, by omega, h1.2.1, h1.2.2, by simp, rfl, rfl, rfl⟩ ?_
    rintro f e h ⟨xs, b', n', vw, hf, hb', hn', hxl, hal, rfl, rfl⟩
    obtain ⟨f, rfl⟩ : ∃ q, f = q + 1 := ⟨f - 1, by omega⟩
    have hq1 := bl_le hb'
    have hl : bl s b' + (wd s b').length ≤ s.length := tw_le _ hq1.2
    refine gos ?_
    by_cases hw : wd s b' = andS
    · have hw' := hw
      unfold andS at hw'
      rw [hw'] at hl
      simp only [List.length_cons, List.length_nil] at hl
      refine CallW.meth 0 (next_t (bl s b' + 3) hw' rfl n' F hb' hs ver) rfl rfl rfl rfl rfl rfl ?_
      refine gos ?_
      have r2 := rel_does m s (bl s b' + 3) n' F (by omega) hs hn' ver
      simp only [alL, hw, if_true] at hal
      cases hR2 : relF s (bl s b' + 3) n' with
      | error r =>
        rw [hR2] at r2 hal
        simp only at r2 hal
        refine CallW.pan1 0 r2 rfl rfl rfl rfl rfl (fun s' hl => ?_)
        refine gos ?_
        exact ⟨by rw [hl]; simp, by simp [allF, hR, hal]⟩
      | ok q =>
        obtain ⟨y, c⟩ := q
        rw [hR2] at r2 hal
        simp only at r2 hal
        have h2 := relF_le (by omega) hR2
        refine CallW.meth 0 r2 rfl rfl rfl rfl rfl rfl ?_
        refine gos ?_
        (repeat (first | refine gof ?_ | refine fun (vv : Nat) => ?_))
        refine ⟨f, _, 2, by omega, fgts, xs ++ [y], c, n' + 1, _, by omega, h2.2.1, h2.2.2, by simp; omega, hal, rfl, ?_⟩
        rw [List.map_append]; rfl
    · simp only [alL, if_neg hw] at hal
      refine CallW.meth 0 (next_f hw n' F hb' hs ver) rfl rfl rfl rfl rfl rfl ?_
      refine gos ?_
      exact ⟨_, 2, fgts, xs, bl s b', n', vw, hal, rfl, rfl⟩
  rintro e h ⟨xs, b', n', vw, hal, rfl, rfl⟩
  refine AC.go tab ?_
  refine gos ?_
  refine RetW.wk (by simp) ?_ (Wk.row (k := 0) (i := 1) rfl rfl rfl (encRels_closed xs)) ?_
  · rfl
  · simp only [allF, hR, hal]
    (first | exact ⟨rfl, rfl⟩ | exact ⟨trivial, rfl⟩ | exact ⟨rfl, trivial⟩ | rfl | trivial | done)
end Go.Proofs.YtjjppmbojcgdgaaGreatDoor
