/- Parse: a text's pattern, or its error. -/
import Derived.Test.YtpipbjfcbbdicaaGreatDoorJ07
import Derived.Test.YtpipbjfcbbdicaaGreatDoorJ01
import Derived.Lib.OthersKept
import Derived.Deep.LoopGhost
import Derived.Lib.TrimU
import Derived.Laws.Strings3
import Derived.Test.YtpipbjfcbbdicaaGreatDoorAbsC
set_option linter.unusedVariables false
set_option linter.unusedSimpArgs false
set_option maxRecDepth 100000
set_option maxHeartbeats 4000000

namespace Go.Proofs.YtpipbjfcbbdicaaGreatDoor
open Go Go.Abs
attribute [local irreducible] DrawW CallW RetW AC Does CmpW
set_option maxRecDepth 100000
variable {G : Globs}

/-- May a comma stand here? -/
def mayC (N : Num) (cs : List Nat) : Bool := match cs with
  | [] => decide (0 < N.hash + N.mi)
  | [c] => decide (c < N.hash + N.mi)
  | _ => false
def whoL (s : List UInt8) : Nat → Nat → Num → List Nat → Nat × Num × List Nat
  | 0, a, N, cs => (a, N, cs)
  | f + 1, a, N, cs =>
    if N.mi = 0 ∧ pre s a [35] = true then whoL s f (a + 1) { N with hash := N.hash + 1 } cs
    else if pre s a [48] then whoL s f (a + 1) { N with mi := N.mi + 1 } cs
    else if mayC N cs = true ∧ pre s a [44] = true then whoL s f (a + 1) N (cs ++ [N.hash + N.mi])
    else (a, N, cs)
def whoF (s : List UInt8) (a : Nat) (N : Num) : Option (Num × Nat) :=
  (grpF ((whoL s (s.length + 1 - a) a N []).2.1.hash + (whoL s (s.length + 1 - a) a N []).2.1.mi) (whoL s (s.length + 1 - a) a N []).2.2 (whoL s (s.length + 1 - a) a N []).2.1).map fun N' => (N', (whoL s (s.length + 1 - a) a N []).1)

theorem whoF_of {s : List UInt8} {a b : Nat} {N N' : Num} {cs : List Nat} (h : whoL s (s.length + 1 - a) a N [] = (b, N', cs)) : whoF s a N = (grpF (N'.hash + N'.mi) cs N').map fun q => (q, b) := by
  unfold whoF; rw [h]
theorem short_cases {cs : List Nat} (h : cs.length ≤ 2) : cs = [] ∨ (∃ c, cs = [c]) ∨ ∃ c d, cs = [c, d] := by
  match cs, h with
  | [], _ => exact .inl rfl
  | [c], _ => exact .inr (.inl ⟨c, rfl⟩)
  | [c, d], _ => exact .inr (.inr ⟨c, d, rfl⟩)
set_option maxHeartbeats 4000000 in
theorem whole_does (s : List UInt8) (a ver pv : Nat) (x : Aff) (hx : x.ok) (two : Bool) (N : Num) (ha : a ≤ s.length) (hs : s.length < 100000) (hN : N.hash = 0 ∧ N.mi = 0) :
    Does Tryz.prog G 142 [.ptr 0 ver 0 0, .ptr 1 pv 0 0] [some (rdr ver s a), some (patO pv x two N)] fun ae O => match whoF s a N with
      | none => ∃ b, ae = .panic (faultV b) ∧ b = (whoL s (s.length + 1 - a) a N []).1
      | some r => ae = .ret (.tuple []) ∧ O = [some (rdr ver s r.2), some (patO pv x two r.1)] := by
  obtain ⟨h0, m0, mnf, mxf, gg, mm⟩ := N
  obtain ⟨rfl, rfl⟩ : h0 = 0 ∧ m0 = 0 := hN
  refine Does.body tab Tryz.func142 rfl rfl ?_
  refine gos ?_
  intro v1
  refine gos ?_
  refine AC.loopC tab (fun n e h => ∃ b N' cs cv, s.length < n + b ∧ b ≤ s.length ∧ N'.hash + N'.mi ≤ b ∧ cs.length ≤ 2 ∧ (∀ c ∈ cs, c ≤ N'.hash + N'.mi) ∧ (∀ c d, cs = [c, d] → c ≤ d) ∧ whoL s (s.length + 1 - a) a ⟨0, 0, mnf, mxf, gg, mm⟩ [] = whoL s n b N' cs ∧
    e = [.ptr 0 ver 0 0, .ptr 1 pv 0 0, .any, .any, .int .i64 (N'.hash + N'.mi : Nat), .sl 2 cv] ++ List.replicate 68 .any ∧
    h = [some (rdr ver s b), some (patO pv x two N'), some (intO cv cs)]) (s.length + 1 - a) ⟨_, fgts, a, ⟨0, 0, mnf, mxf, gg, mm⟩, [], v1, by omega, ha, by simp, by simp, by simp, by simp, rfl, rfl, rfl⟩ ?_
  rintro n e h ⟨b, N', cs, cv, hn, hb, hpl, hcl, hc1, hc2, hq, rfl, rfl⟩
  obtain ⟨n, rfl⟩ : ∃ m, n = m + 1 := ⟨n - 1, by omega⟩
  simp only [whoL] at hq
  refine gos ?_
  by_cases h1 : N'.mi = 0 ∧ pre s b [35] = true
  · obtain ⟨h11, h12⟩ := h1
    rw [if_pos ⟨h11, h12⟩] at hq
    have hle := pre_le h12 (by simp)
    simp only [List.length_cons, List.length_nil] at hle
    refine CmpW.t (by simp [h11]) ?_
    refine gos ?_
    refine CallW.meth 0 (take_yes 1 rfl h12 hle (by omega) _) rfl rfl rfl rfl rfl rfl ?_
    refine gos ?_
    have e1 : ((N'.hash + N'.mi : Nat) : Int) + 1 = ((N'.hash + 1 + N'.mi : Nat) : Int) := by omega
    rw [e1]
    refine ⟨n, _, 3, by omega, fgts, b + 1, { N' with hash := N'.hash + 1 }, cs, cv, by omega, by omega, by simp; omega, hcl, fun c hc => by have := hc1 c hc; simp; omega, hc2, hq, rfl, rfl⟩
  · rw [if_neg h1] at hq
    have key : (N'.mi = 0 ∧ pre s b [35] = false) ∨ N'.mi ≠ 0 := by
      by_cases hm : N'.mi = 0
      · left
        refine ⟨hm, ?_⟩
        cases hp : pre s b [35] with
        | true => exact absurd ⟨hm, hp⟩ h1
        | false => rfl
      · exact .inr hm
    rcases key with ⟨k1, k2⟩ | k1
    case' inl =>
      refine CmpW.t (by simp [k1]) ?_
      refine gos ?_
      refine CallW.meth 0 (take_no k2 hb _) rfl rfl rfl rfl rfl rfl ?_
      refine gos ?_
    case' inr =>
      refine CmpW.f (by simpa using k1) ?_
      refine gos ?_
    all_goals
      cases h2 : pre s b [48] with
      | true =>
        rw [if_pos h2] at hq
        have hle := pre_le h2 (by simp)
        simp only [List.length_cons, List.length_nil] at hle
        refine CallW.meth 0 (take_yes 1 rfl h2 hle (by omega) _) rfl rfl rfl rfl rfl rfl ?_
        refine gos ?_
        refine ⟨n, _, 3, by omega, fgts, b + 1, { N' with mi := N'.mi + 1 }, cs, cv, by omega, by omega, by simp; omega, hcl, fun c hc => by have := hc1 c hc; simp; omega, hc2, hq, rfl, rfl⟩
      | false =>
        rw [if_neg (by simp [h2])] at hq
        refine CallW.meth 0 (take_no h2 hb _) rfl rfl rfl rfl rfl rfl ?_
        refine gos ?_
        rcases short_cases hcl with rfl | ⟨c, rfl⟩ | ⟨c, d, rfl⟩
        · by_cases hp0 : 0 < N'.hash + N'.mi
          · refine CmpW.t (by simp; omega) ?_
            refine gos ?_
            cases h3 : pre s b [44] with
            | true =>
              rw [if_pos ⟨by simpa [mayC] using hp0, h3⟩] at hq
              have hle := pre_le h3 (by simp)
              simp only [List.length_cons, List.length_nil] at hle
              refine CallW.meth 0 (take_yes 1 rfl h3 hle (by omega) _) rfl rfl rfl rfl rfl rfl ?_
              refine gos ?_
              intro v3
              refine gos ?_
              refine And.intro (And.intro (fun y hy => by rcases List.mem_singleton.1 hy with rfl; rfl) (fun y hy => by rcases List.mem_singleton.1 hy with rfl; rfl)) ?_; refine And.intro (And.intro rfl trivial) ?_
              refine gos ?_
              intro v4
              refine gos ?_
              refine ⟨n, _, 3, by omega, fgts, b + 1, N', [N'.hash + N'.mi], v4, by omega, by omega, by omega, by simp, by simp, by simp, hq, rfl, rfl⟩
            | false =>
              rw [if_neg (by simp [h3])] at hq
              refine CallW.meth 0 (take_no h3 hb _) rfl rfl rfl rfl rfl rfl ?_
              refine gos ?_
              refine CallW.of3 0 1 2 (groups_does s b ver pv cv (N'.hash + N'.mi) x hx two N' _ (by omega) hcl hc1 hc2) (by decide) (by decide) (by decide) rfl rfl rfl rfl (patO_closed hx) (intO_closed _ _) rfl rfl ?_
              intro ae O hgr
              have hwf := whoF_of hq
              split at hgr
              · rename_i hgf
                rw [hgf] at hwf
                subst hgr
                refine ⟨rfl, fun s' hl => ?_⟩
                refine gos ?_
                refine ⟨by rw [hl]; simp, ?_⟩
                rw [hwf]
                exact ⟨b, rfl, by rw [hq]⟩
              · rename_i q hgf
                rw [hgf] at hwf
                obtain ⟨rfl, rfl⟩ := hgr
                refine ⟨_, _, _, rfl, rfl, patO_closed hx, intO_closed _ _, rfl, ?_⟩
                refine gos ?_
                refine RetW.plain (by simp) ?_
                rw [hwf]
                exact ⟨rfl, rfl⟩
          · rw [if_neg (by simp [mayC]; omega)] at hq
            refine CmpW.f (by simp; omega) ?_
            refine gos ?_
            refine CallW.of3 0 1 2 (groups_does s b ver pv cv (N'.hash + N'.mi) x hx two N' _ (by omega) hcl hc1 hc2) (by decide) (by decide) (by decide) rfl rfl rfl rfl (patO_closed hx) (intO_closed _ _) rfl rfl ?_
            intro ae O hgr
            have hwf := whoF_of hq
            split at hgr
            · rename_i hgf
              rw [hgf] at hwf
              subst hgr
              refine ⟨rfl, fun s' hl => ?_⟩
              refine gos ?_
              refine ⟨by rw [hl]; simp, ?_⟩
              rw [hwf]
              exact ⟨b, rfl, by rw [hq]⟩
            · rename_i q hgf
              rw [hgf] at hwf
              obtain ⟨rfl, rfl⟩ := hgr
              refine ⟨_, _, _, rfl, rfl, patO_closed hx, intO_closed _ _, rfl, ?_⟩
              refine gos ?_
              refine RetW.plain (by simp) ?_
              rw [hwf]
              exact ⟨rfl, rfl⟩
        · have hcc := hc1 c (by simp)
          by_cases hp0 : 0 < N'.hash + N'.mi
          · refine CmpW.t (by simp; omega) ?_
            refine gos ?_
            refine And.intro (by simp) ?_
            refine gos ?_
            by_cases hp1 : c < N'.hash + N'.mi
            · refine CmpW.t (by simp; omega) ?_
              refine gos ?_
              cases h3 : pre s b [44] with
              | true =>
                rw [if_pos ⟨by simpa [mayC] using hp1, h3⟩] at hq
                have hle := pre_le h3 (by simp)
                simp only [List.length_cons, List.length_nil] at hle
                refine CallW.meth 0 (take_yes 1 rfl h3 hle (by omega) _) rfl rfl rfl rfl rfl rfl ?_
                refine gos ?_
                intro v3
                refine gos ?_
                refine And.intro (And.intro (fun y hy => by rcases List.mem_singleton.1 hy with rfl; rfl) (fun y hy => by rcases List.mem_singleton.1 hy with rfl; rfl)) ?_; refine And.intro (And.intro rfl trivial) ?_
                refine gos ?_
                intro v4
                refine gos ?_
                refine ⟨n, _, 3, by omega, fgts, b + 1, N', [c, N'.hash + N'.mi], v4, by omega, by omega, by omega, by simp, by simp; omega, ?_, hq, rfl, rfl⟩
                intro c' d' e; simp at e; omega
              | false =>
                rw [if_neg (by simp [h3])] at hq
                refine CallW.meth 0 (take_no h3 hb _) rfl rfl rfl rfl rfl rfl ?_
                refine gos ?_
                refine CallW.of3 0 1 2 (groups_does s b ver pv cv (N'.hash + N'.mi) x hx two N' _ (by omega) hcl hc1 hc2) (by decide) (by decide) (by decide) rfl rfl rfl rfl (patO_closed hx) (intO_closed _ _) rfl rfl ?_
                intro ae O hgr
                have hwf := whoF_of hq
                split at hgr
                · rename_i hgf
                  rw [hgf] at hwf
                  subst hgr
                  refine ⟨rfl, fun s' hl => ?_⟩
                  refine gos ?_
                  refine ⟨by rw [hl]; simp, ?_⟩
                  rw [hwf]
                  exact ⟨b, rfl, by rw [hq]⟩
                · rename_i q hgf
                  rw [hgf] at hwf
                  obtain ⟨rfl, rfl⟩ := hgr
                  refine ⟨_, _, _, rfl, rfl, patO_closed hx, intO_closed _ _, rfl, ?_⟩
                  refine gos ?_
                  refine RetW.plain (by simp) ?_
                  rw [hwf]
                  exact ⟨rfl, rfl⟩
            · rw [if_neg (by simp [mayC]; omega)] at hq
              refine CmpW.f (by simp; omega) ?_
              refine gos ?_
              refine CallW.of3 0 1 2 (groups_does s b ver pv cv (N'.hash + N'.mi) x hx two N' _ (by omega) hcl hc1 hc2) (by decide) (by decide) (by decide) rfl rfl rfl rfl (patO_closed hx) (intO_closed _ _) rfl rfl ?_
              intro ae O hgr
              have hwf := whoF_of hq
              split at hgr
              · rename_i hgf
                rw [hgf] at hwf
                subst hgr
                refine ⟨rfl, fun s' hl => ?_⟩
                refine gos ?_
                refine ⟨by rw [hl]; simp, ?_⟩
                rw [hwf]
                exact ⟨b, rfl, by rw [hq]⟩
              · rename_i q hgf
                rw [hgf] at hwf
                obtain ⟨rfl, rfl⟩ := hgr
                refine ⟨_, _, _, rfl, rfl, patO_closed hx, intO_closed _ _, rfl, ?_⟩
                refine gos ?_
                refine RetW.plain (by simp) ?_
                rw [hwf]
                exact ⟨rfl, rfl⟩
          · rw [if_neg (by simp [mayC]; omega)] at hq
            refine CmpW.f (by simp; omega) ?_
            refine gos ?_
            refine CallW.of3 0 1 2 (groups_does s b ver pv cv (N'.hash + N'.mi) x hx two N' _ (by omega) hcl hc1 hc2) (by decide) (by decide) (by decide) rfl rfl rfl rfl (patO_closed hx) (intO_closed _ _) rfl rfl ?_
            intro ae O hgr
            have hwf := whoF_of hq
            split at hgr
            · rename_i hgf
              rw [hgf] at hwf
              subst hgr
              refine ⟨rfl, fun s' hl => ?_⟩
              refine gos ?_
              refine ⟨by rw [hl]; simp, ?_⟩
              rw [hwf]
              exact ⟨b, rfl, by rw [hq]⟩
            · rename_i q hgf
              rw [hgf] at hwf
              obtain ⟨rfl, rfl⟩ := hgr
              refine ⟨_, _, _, rfl, rfl, patO_closed hx, intO_closed _ _, rfl, ?_⟩
              refine gos ?_
              refine RetW.plain (by simp) ?_
              rw [hwf]
              exact ⟨rfl, rfl⟩
        · rw [if_neg (by simp [mayC])] at hq
          by_cases hp0 : 0 < N'.hash + N'.mi
          · refine CmpW.t (by simp; omega) ?_
            refine gos ?_
            refine CallW.of3 0 1 2 (groups_does s b ver pv cv (N'.hash + N'.mi) x hx two N' _ (by omega) hcl hc1 hc2) (by decide) (by decide) (by decide) rfl rfl rfl rfl (patO_closed hx) (intO_closed _ _) rfl rfl ?_
            intro ae O hgr
            have hwf := whoF_of hq
            split at hgr
            · rename_i hgf
              rw [hgf] at hwf
              subst hgr
              refine ⟨rfl, fun s' hl => ?_⟩
              refine gos ?_
              refine ⟨by rw [hl]; simp, ?_⟩
              rw [hwf]
              exact ⟨b, rfl, by rw [hq]⟩
            · rename_i q hgf
              rw [hgf] at hwf
              obtain ⟨rfl, rfl⟩ := hgr
              refine ⟨_, _, _, rfl, rfl, patO_closed hx, intO_closed _ _, rfl, ?_⟩
              refine gos ?_
              refine RetW.plain (by simp) ?_
              rw [hwf]
              exact ⟨rfl, rfl⟩
          · refine CmpW.f (by simp; omega) ?_
            refine gos ?_
            refine CallW.of3 0 1 2 (groups_does s b ver pv cv (N'.hash + N'.mi) x hx two N' _ (by omega) hcl hc1 hc2) (by decide) (by decide) (by decide) rfl rfl rfl rfl (patO_closed hx) (intO_closed _ _) rfl rfl ?_
            intro ae O hgr
            have hwf := whoF_of hq
            split at hgr
            · rename_i hgf
              rw [hgf] at hwf
              subst hgr
              refine ⟨rfl, fun s' hl => ?_⟩
              refine gos ?_
              refine ⟨by rw [hl]; simp, ?_⟩
              rw [hwf]
              exact ⟨b, rfl, by rw [hq]⟩
            · rename_i q hgf
              rw [hgf] at hwf
              obtain ⟨rfl, rfl⟩ := hgr
              refine ⟨_, _, _, rfl, rfl, patO_closed hx, intO_closed _ _, rfl, ?_⟩
              refine gos ?_
              refine RetW.plain (by simp) ?_
              rw [hwf]
              exact ⟨rfl, rfl⟩
end Go.Proofs.YtpipbjfcbbdicaaGreatDoor

namespace Go.Proofs.YtpipbjfcbbdicaaGreatDoor
open Go Go.Abs
attribute [local irreducible] DrawW CallW RetW AC Does CmpW
set_option maxRecDepth 100000
variable {G : Globs}

theorem whoL_keeps (s : List UInt8) : ∀ f a N cs, a ≤ s.length → (whoL s f a N cs).2.1.mnf = N.mnf ∧ (whoL s f a N cs).2.1.mxf = N.mxf ∧ a ≤ (whoL s f a N cs).1 ∧ (whoL s f a N cs).1 ≤ s.length
  | 0, a, N, cs, h => by simp [whoL, h]
  | f + 1, a, N, cs, h => by
    unfold whoL
    split
    · rename_i hp
      have hle := pre_le hp.2 (by simp)
      simp only [List.length_cons, List.length_nil] at hle
      have := whoL_keeps s f (a + 1) { N with hash := N.hash + 1 } cs (by omega)
      simp only at this ⊢; omega
    split
    · rename_i hp
      have hle := pre_le hp (by simp)
      simp only [List.length_cons, List.length_nil] at hle
      have := whoL_keeps s f (a + 1) { N with mi := N.mi + 1 } cs (by omega)
      simp only at this ⊢; omega
    split
    · rename_i hp
      have hle := pre_le hp.2 (by simp)
      simp only [List.length_cons, List.length_nil] at hle
      have := whoL_keeps s f (a + 1) N (cs ++ [N.hash + N.mi]) (by omega)
      omega
    · simp [h]
theorem grpF_keeps {p : Nat} {cs : List Nat} {N N' : Num} (h : grpF p cs N = some N') : N'.mnf = N.mnf ∧ N'.mxf = N.mxf := by
  unfold grpF at h
  split at h
  · cases h
  split at h
  · simp at h; subst h; exact ⟨rfl, rfl⟩
  · split at h
    · cases h
    · simp at h; subst h; exact ⟨rfl, rfl⟩
  · split at h
    · cases h
    split at h
    · simp at h; subst h; exact ⟨rfl, rfl⟩
    · simp at h; subst h; exact ⟨rfl, rfl⟩
  · cases h
theorem whoF_keeps {s : List UInt8} {a b : Nat} {N N' : Num} (ha : a ≤ s.length) (h : whoF s a N = some (N', b)) : N'.mnf = N.mnf ∧ N'.mxf = N.mxf ∧ a ≤ b ∧ b ≤ s.length := by
  unfold whoF at h
  simp only [Option.map_eq_some_iff, Prod.mk.injEq] at h
  obtain ⟨q, h1, rfl, rfl⟩ := h
  have k := whoL_keeps s (s.length + 1 - a) a N [] ha
  have k2 := grpF_keeps h1
  exact ⟨k2.1.trans k.1, k2.2.trans k.2.1, k.2.2.1, k.2.2.2⟩

/-- How many of a byte are next. -/
def cntN (s : List UInt8) (c : UInt8) : Nat → Nat → Nat
  | 0, _ => 0
  | f + 1, a => if pre s a [c] then cntN s c f (a + 1) + 1 else 0
theorem cntN_le (s : List UInt8) (c : UInt8) : ∀ f a, a ≤ s.length → a + cntN s c f a ≤ s.length
  | 0, a, h => by simp [cntN]; exact h
  | f + 1, a, h => by
    unfold cntN
    split
    · rename_i hp
      have h1 := pre_le hp (by simp)
      simp only [List.length_cons, List.length_nil] at h1
      have := cntN_le s c f (a + 1) (by omega)
      omega
    · simpa using h
/-- The places of a number, and where they end; or where it gives up. -/
def numF (s : List UInt8) (a : Nat) : Except Nat (Num × Nat) :=
  match whoF s a Num.zero with
  | none => .error (whoL s (s.length + 1 - a) a Num.zero []).1
  | some (N, b) =>
    if pre s b [46] then
      if cntN s 48 s.length (b + 1) + cntN s 35 s.length (b + 1 + cntN s 48 s.length (b + 1)) = 0 then .error (b + 1 + cntN s 48 s.length (b + 1) + cntN s 35 s.length (b + 1 + cntN s 48 s.length (b + 1)))
      else .ok ({ N with mnf := cntN s 48 s.length (b + 1), mxf := cntN s 48 s.length (b + 1) + cntN s 35 s.length (b + 1 + cntN s 48 s.length (b + 1)) }, b + 1 + cntN s 48 s.length (b + 1) + cntN s 35 s.length (b + 1 + cntN s 48 s.length (b + 1)))
    else .ok (N, b)

theorem number_does (s : List UInt8) (a ver pv : Nat) (x : Aff) (hx : x.ok) (two : Bool) (ha : a ≤ s.length) (hs : s.length < 100000) :
    Does Tryz.prog G 115 [.ptr 0 ver 0 0, .ptr 1 pv 0 0] [some (rdr ver s a), some (patO pv x two Num.zero)] fun ae O => match numF s a with
      | .error b => ae = .panic (faultV b)
      | .ok r => ae = .ret (.tuple []) ∧ O = [some (rdr ver s r.2), some (patO pv x two r.1)] := by
  refine Does.body tab Tryz.func115 rfl rfl ?_
  refine gos ?_
  refine CallW.of2 0 1 (whole_does s a ver pv x hx two Num.zero ha hs ⟨rfl, rfl⟩) (by decide) rfl rfl rfl (patO_closed hx) rfl rfl ?_
  intro ae O hw
  unfold numF
  cases hwf : whoF s a Num.zero with
  | none =>
    rw [hwf] at hw
    obtain ⟨b, rfl, rfl⟩ := hw
    refine ⟨rfl, fun s' hl => ?_⟩
    refine gos ?_
    exact ⟨by rw [hl]; simp, rfl⟩
  | some r =>
    obtain ⟨N, b⟩ := r
    rw [hwf] at hw
    obtain ⟨rfl, rfl⟩ := hw
    obtain ⟨n1, n2, n3, n4⟩ := whoF_keeps ha hwf
    refine ⟨_, _, rfl, rfl, patO_closed hx, rfl, ?_⟩
    refine gos ?_
    cases hd : pre s b [46] with
    | false =>
      refine CallW.meth 0 (take_no hd n4 _) rfl rfl rfl rfl rfl rfl ?_
      refine gos ?_
      refine RetW.plain (by simp) ?_
      simp only [hd, if_neg (show ¬ (false = true) by simp)]
      exact ⟨trivial, rfl⟩
    | true =>
      have hle := pre_le hd (by simp)
      simp only [List.length_cons, List.length_nil] at hle
      simp only [hd, if_true]
      refine CallW.meth 0 (take_yes 1 rfl hd hle (by omega) _) rfl rfl rfl rfl rfl rfl ?_
      refine gos ?_
      refine AC.loopC tab (fun n e h => ∃ k, s.length < n + (b + 1 + k) ∧ b + 1 + k ≤ s.length ∧ cntN s 48 s.length (b + 1) = k + cntN s 48 n (b + 1 + k) ∧
        e = [.ptr 0 ver 0 0, .ptr 1 pv 0 0] ++ List.replicate 40 .any ∧ h = [some (rdr ver s (b + 1 + k)), some (patO pv x two { N with mnf := k })]) s.length ⟨_, fgts, 0, by omega, by omega, by simp, rfl, ?_⟩ ?_
      · obtain ⟨q1, q2, q3, q4, q5, q6⟩ := N
        obtain rfl : q3 = 0 := n1
        rfl
      rintro n e h ⟨k, hn, hk, hc, rfl, rfl⟩
      obtain ⟨n, rfl⟩ : ∃ m, n = m + 1 := ⟨n - 1, by omega⟩
      simp only [cntN] at hc
      refine gos ?_
      cases hz : pre s (b + 1 + k) [48] with
      | true =>
        have hle2 := pre_le hz (by simp)
        simp only [List.length_cons, List.length_nil] at hle2
        rw [if_pos hz] at hc
        refine CallW.meth 0 (take_yes 1 rfl hz hle2 (by omega) _) rfl rfl rfl rfl rfl rfl ?_
        refine gos ?_
        refine ⟨n, _, 2, by omega, fgts, k + 1, by omega, by omega, ?_, rfl, rfl⟩
        rw [hc, show b + 1 + (k + 1) = b + 1 + k + 1 by omega]; omega
      | false =>
        rw [if_neg (by simp [hz])] at hc
        have hkz : cntN s 48 s.length (b + 1) = k := by omega
        rw [hkz]
        refine CallW.meth 0 (take_no hz hk _) rfl rfl rfl rfl rfl rfl ?_
        refine gos ?_
        refine AC.loopC tab (fun n e h => ∃ j, s.length < n + (b + 1 + k + j) ∧ b + 1 + k + j ≤ s.length ∧ cntN s 35 s.length (b + 1 + k) = j + cntN s 35 n (b + 1 + k + j) ∧
          e = [.ptr 0 ver 0 0, .ptr 1 pv 0 0] ++ List.replicate 40 .any ∧ h = [some (rdr ver s (b + 1 + k + j)), some (patO pv x two { N with mnf := k, mxf := k + j })]) s.length ⟨_, fgts, 0, by omega, by omega, by simp, rfl, rfl⟩ ?_
        rintro n' e h ⟨j, hn', hj, hc', rfl, rfl⟩
        obtain ⟨n', rfl⟩ : ∃ m, n' = m + 1 := ⟨n' - 1, by omega⟩
        simp only [cntN] at hc'
        refine gos ?_
        cases hy : pre s (b + 1 + k + j) [35] with
        | true =>
          have hle3 := pre_le hy (by simp)
          simp only [List.length_cons, List.length_nil] at hle3
          rw [if_pos hy] at hc'
          refine CallW.meth 0 (take_yes 1 rfl hy hle3 (by omega) _) rfl rfl rfl rfl rfl rfl ?_
          refine gos ?_
          refine ⟨n', _, 2, by omega, fgts, j + 1, by omega, by omega, ?_, rfl, rfl⟩
          rw [hc', show b + 1 + k + (j + 1) = b + 1 + k + j + 1 by omega]; omega
        | false =>
          rw [if_neg (by simp [hy])] at hc'
          have hjz : cntN s 35 s.length (b + 1 + k) = j := by omega
          rw [hjz]
          refine CallW.meth 0 (take_no hy hj _) rfl rfl rfl rfl rfl rfl ?_
          refine gos ?_
          by_cases h0 : k + j = 0
          · refine CmpW.t (by simp; omega) ?_
            refine gos ?_
            refine CallW.of1 0 (fail_does s _ ver) rfl rfl rfl rfl ?_
            rintro ae O ⟨rfl, rfl⟩
            refine ⟨_, rfl, rfl, rfl, ?_⟩
            refine gos ?_
            refine ⟨by simp, ?_⟩
            simp only [if_pos h0]
          · refine CmpW.f (by simp; omega) ?_
            refine gos ?_
            refine RetW.plain (by simp) ?_
            simp only [if_neg h0]
            exact ⟨trivial, rfl⟩
end Go.Proofs.YtpipbjfcbbdicaaGreatDoor

namespace Go.Proofs.YtpipbjfcbbdicaaGreatDoor
open Go Go.Abs
attribute [local irreducible] DrawW CallW RetW AC Does CmpW
set_option maxRecDepth 100000

theorem affL_le (s : List UInt8) : ∀ f a out ps b, a ≤ s.length → affL s f a out = some (ps, b) → b ≤ s.length
  | 0, a, out, ps, b, _, h => by simp [affL] at h
  | f + 1, a, out, ps, b, ha, h => by
    unfold affL at h
    split at h
    · rename_i hs
      exact affL_le s f _ _ ps b (signF_t ha hs).2.1 h
    · split at h
      · cases h
      · rename_i t ok b' hl
        split at h
        · rename_i hok
          have : ok = false := by simpa using hok
          subst this
          have := litF_f hl
          simp at h
          omega
        · rename_i hok
          have : ok = true := by simpa using hok
          subst this
          have h2 := litF_t ha hl
          split at h
          · exact affL_le s f _ _ ps b h2.2.1 h
          · exact affL_le s f _ _ ps b h2.2.1 h
theorem affF_le {s : List UInt8} {a : Nat} {ps : List Piece} {b : Nat} (ha : a ≤ s.length) (h : affF s a = some (ps, b)) : b ≤ s.length := affL_le s _ a [] ps b ha h
theorem numF_le {s : List UInt8} {a : Nat} {N : Num} {b : Nat} (ha : a ≤ s.length) (h : numF s a = .ok (N, b)) : b ≤ s.length := by
  unfold numF at h
  split at h
  · cases h
  · rename_i N' b' hw
    have k := whoF_keeps ha hw
    split at h
    · rename_i hp
      have hle := pre_le hp (by simp)
      simp only [List.length_cons, List.length_nil] at hle
      have k1 := cntN_le s 48 s.length (b' + 1) (by omega)
      have k2 := cntN_le s 35 s.length (b' + 1 + cntN s 48 s.length (b' + 1)) k1
      split at h
      · cases h
      · simp at h; omega
    · simp at h; omega

structure PatV where
  pre : List Piece
  suf : List Piece
  npre : List Piece
  nsuf : List Piece
  two : Bool
  N : Num
def encL (ps : List Piece) : AV := .fsl (ps.map encP)
def affV (v : PatV) : Aff := ⟨encL v.pre, encL v.suf, if v.two then encL v.npre else .nils, if v.two then encL v.nsuf else .nils⟩
def encV (v : PatV) : AV := .agg (patCells (affV v) v.two v.N)

def affE (s : List UInt8) (a : Nat) : Except Nat (List Piece × Nat) := match affF s a with
  | none => .error s.length
  | some r => .ok r
def endE (s : List UInt8) (a : Nat) (v : PatV) : Except Nat PatV := if a < s.length then .error a else .ok v
/-- A pattern, or where it can't be read. -/
def patF (s : List UInt8) : Except Nat PatV :=
  match affE s 0 with
  | .error b => .error b
  | .ok (p, a1) => match numF s a1 with
    | .error b => .error b
    | .ok (N, a2) => match affE s a2 with
      | .error b => .error b
      | .ok (q, a3) =>
        if pre s a3 [59] then match affE s (a3 + 1) with
          | .error b => .error b
          | .ok (p', a5) => match numF s a5 with
            | .error b => .error b
            | .ok (_, a6) => match affE s a6 with
              | .error b => .error b
              | .ok (q', a7) => endE s a7 ⟨p, q, p', q', true, N⟩
        else endE s a3 ⟨p, q, [], [], false, N⟩
theorem affix_E {m : Int} (s : List UInt8) (a : Nat) (ha : a ≤ s.length) (hs : s.length < 1000000) (ver : Nat) :
    Does Tryz.prog (GL m) 114 [.ptr 0 ver 0 0] [some (rdr ver s a)] fun ae O => match affE s a with
      | .error b => ae = .panic (faultV b)
      | .ok r => ae = .ret (encL r.1) ∧ O = [some (rdr ver s r.2)] :=
  (affix_does s a ha hs ver).mono fun ae O h => by
    unfold affE
    cases hf : affF s a with
    | none => rw [hf] at h; exact h.1
    | some r => rw [hf] at h; exact h
theorem affE_le {s : List UInt8} {a : Nat} {ps : List Piece} {b : Nat} (ha : a ≤ s.length) (h : affE s a = .ok (ps, b)) : b ≤ s.length := by
  unfold affE at h
  split at h
  · cases h
  · rename_i r hr; simp at h; subst h; exact affF_le ha hr

set_option maxHeartbeats 4000000 in
theorem pattern_does {m : Int} (s : List UInt8) (ver : Nat) (hs : s.length < 100000) :
    Does Tryz.prog (GL m) 87 [.ptr 0 ver 0 0] [some (rdr ver s 0)] fun ae O => match patF s with
      | .error b => ae = .panic (faultV b)
      | .ok v => ae = .ret (encV v) := by
  refine Does.body tab Tryz.func87 rfl rfl ?_
  refine gos ?_
  intro v1
  refine gos ?_
  intro v2
  refine gos ?_
  intro v3
  refine gos ?_
  refine CallW.of1p 0 (affix_E s 0 (by omega) (by omega) ver) rfl rfl rfl rfl ?_
  intro ae O hA
  cases hE : affE s 0 with
  | error b =>
    rw [hE] at hA
    subst hA
    refine ⟨rfl, fun s' hl => ?_⟩
    refine gos ?_
    refine ⟨by rw [hl]; simp, ?_⟩
    simp only [patF, hE]
  | ok r =>
    obtain ⟨p, a1⟩ := r
    rw [hE] at hA
    obtain ⟨rfl, rfl⟩ := hA
    have h1 := affE_le (by omega) hE
    refine ⟨_, rfl, rfl, rfl, ?_⟩
    refine gos ?_
    refine CallW.of2 0 2 (number_does s a1 ver v2 ⟨encL p, .nils, .nils, .nils⟩ ⟨rfl, rfl, rfl, rfl⟩ false h1 (by omega)) (by decide) rfl rfl rfl (patO_closed ⟨rfl, rfl, rfl, rfl⟩) rfl rfl ?_
    intro ae O hA
    have hE1 := hE
    cases hE : numF s a1 with
    | error b =>
      rw [hE] at hA
      subst hA
      refine ⟨rfl, fun s' hl => ?_⟩
      refine gos ?_
      refine ⟨by rw [hl]; simp, ?_⟩
      simp only [patF, hE1, hE]
    | ok r =>
      obtain ⟨N, a2⟩ := r
      rw [hE] at hA
      obtain ⟨rfl, rfl⟩ := hA
      have h2 := numF_le h1 hE
      refine ⟨_, _, rfl, rfl, patO_closed ⟨rfl, rfl, rfl, rfl⟩, rfl, ?_⟩
      refine gos ?_
      refine CallW.of1p 0 (affix_E s a2 h2 (by omega) ver) rfl rfl rfl rfl ?_
      intro ae O hA
      have hE2 := hE
      cases hE : affE s a2 with
      | error b =>
        rw [hE] at hA
        subst hA
        refine ⟨rfl, fun s' hl => ?_⟩
        refine gos ?_
        refine ⟨by rw [hl]; simp, ?_⟩
        simp only [patF, hE1, hE2, hE]
      | ok r =>
        obtain ⟨q, a3⟩ := r
        rw [hE] at hA
        obtain ⟨rfl, rfl⟩ := hA
        have h3 := affE_le h2 hE
        have hE3 := hE
        refine ⟨_, rfl, rfl, rfl, ?_⟩
        refine gos ?_
        cases h4 : pre s a3 [59] with
        | false =>
          refine CallW.meth 0 (take_no h4 h3 _) rfl rfl rfl rfl rfl rfl ?_
          refine gos ?_
          refine DrawW.L ?_
          refine gos ?_
          have hp : patF s = endE s a3 ⟨p, q, [], [], false, N⟩ := by simp only [patF, hE1, hE2, hE3, h4]; rfl
          rw [hp]
          by_cases hb : a3 < s.length
          · refine CmpW.t (by simp; omega) ?_
            refine gos ?_
            refine CallW.of1 0 (fail_does s a3 ver) rfl rfl rfl rfl ?_
            rintro ae O ⟨rfl, rfl⟩
            refine ⟨_, rfl, rfl, rfl, ?_⟩
            refine gos ?_
            refine ⟨by simp, ?_⟩
            simp only [endE, if_pos hb]
          · refine CmpW.f (by simp; omega) ?_
            refine gos ?_
            refine RetW.plain (by simp) ?_
            simp only [endE, if_neg hb]
            rfl
        | true =>
          have hle := pre_le h4 (by simp)
          simp only [List.length_cons, List.length_nil] at hle
          refine CallW.meth 0 (take_yes 1 rfl h4 hle (by omega) _) rfl rfl rfl rfl rfl rfl ?_
          refine gos ?_
          refine CallW.of1p 0 (affix_E s (a3 + 1) hle (by omega) ver) rfl rfl rfl rfl ?_
          intro ae O hA
          cases hE : affE s (a3 + 1) with
          | error b =>
            rw [hE] at hA
            subst hA
            refine ⟨rfl, fun s' hl => ?_⟩
            refine gos ?_
            refine ⟨by rw [hl]; simp, ?_⟩
            simp only [patF, hE1, hE2, hE3, h4, hE, if_true]
          | ok r =>
            obtain ⟨p', a5⟩ := r
            rw [hE] at hA
            obtain ⟨rfl, rfl⟩ := hA
            have h5 := affE_le hle hE
            have hE5 := hE
            refine ⟨_, rfl, rfl, rfl, ?_⟩
            refine gos ?_
            refine CallW.of2 0 3 (number_does s a5 ver v3 ⟨.nils, .nils, .nils, .nils⟩ ⟨rfl, rfl, rfl, rfl⟩ false h5 (by omega)) (by decide) rfl rfl rfl (patO_closed ⟨rfl, rfl, rfl, rfl⟩) rfl rfl ?_
            intro ae O hA
            cases hE : numF s a5 with
            | error b =>
              rw [hE] at hA
              subst hA
              refine ⟨rfl, fun s' hl => ?_⟩
              refine gos ?_
              refine ⟨by rw [hl]; simp, ?_⟩
              simp only [patF, hE1, hE2, hE3, h4, hE5, hE, if_true]
            | ok r =>
              obtain ⟨N6, a6⟩ := r
              rw [hE] at hA
              obtain ⟨rfl, rfl⟩ := hA
              have h6 := numF_le h5 hE
              have hE6 := hE
              refine ⟨_, _, rfl, rfl, patO_closed ⟨rfl, rfl, rfl, rfl⟩, rfl, ?_⟩
              refine gos ?_
              refine CallW.of1p 0 (affix_E s a6 h6 (by omega) ver) rfl rfl rfl rfl ?_
              intro ae O hA
              cases hE : affE s a6 with
              | error b =>
                rw [hE] at hA
                subst hA
                refine ⟨rfl, fun s' hl => ?_⟩
                refine gos ?_
                refine ⟨by rw [hl]; simp, ?_⟩
                simp only [patF, hE1, hE2, hE3, h4, hE5, hE6, hE, if_true]
              | ok r =>
                obtain ⟨q', a7⟩ := r
                rw [hE] at hA
                obtain ⟨rfl, rfl⟩ := hA
                have h7 := affE_le h6 hE
                refine ⟨_, rfl, rfl, rfl, ?_⟩
                refine gos ?_
                refine DrawW.L ?_
                refine gos ?_
                have hp : patF s = endE s a7 ⟨p, q, p', q', true, N⟩ := by simp only [patF, hE1, hE2, hE3, h4, hE5, hE6, hE, if_true]
                rw [hp]
                by_cases hb : a7 < s.length
                · refine CmpW.t (by simp; omega) ?_
                  refine gos ?_
                  refine CallW.of1 0 (fail_does s a7 ver) rfl rfl rfl rfl ?_
                  rintro ae O ⟨rfl, rfl⟩
                  refine ⟨_, rfl, rfl, rfl, ?_⟩
                  refine gos ?_
                  refine ⟨by simp, ?_⟩
                  simp only [endE, if_pos hb]
                · refine CmpW.f (by simp; omega) ?_
                  refine gos ?_
                  refine RetW.plain (by simp) ?_
                  simp only [endE, if_neg hb]
                  rfl
end Go.Proofs.YtpipbjfcbbdicaaGreatDoor

namespace Go.Proofs.YtpipbjfcbbdicaaGreatDoor
open Go Go.Abs Go.RowKit

/-- Where a text is not UTF-8; below nought: nowhere. -/
def wroL (s : ByteArray) : Nat → Nat → Int
  | 0, _ => -1
  | f + 1, pos => if pos < s.size then
      if (Utf8.decode s pos).1 = 65533 ∧ (Lib.decodeGo (s.extract pos s.size)).2 < 2 then pos else wroL s f (pos + (Utf8.decode s pos).2)
    else -1
theorem wroL_end (s : ByteArray) (f pos : Nat) (h : ¬ pos < s.size) : wroL s f pos = -1 := by
  cases f <;> simp [wroL, h]
theorem tabs_below {w w' : World} {B : Nat} (h : Lib.Utf8Tabs 0 1 w) (hb : Below B w w') (h1 : 0 < B) (h2 : 1 < B) : Lib.Utf8Tabs 0 1 w' := by
  obtain ⟨a1, a2⟩ := h
  refine ⟨fun c hc => ?_, fun i hi => ?_⟩
  · rw [World.cell?_of_block (hb.block _ h1)]; exact a1 c hc
  · rw [World.cell?_of_block (hb.block _ h2), World.cell?_of_block (hb.block _ h2)]; exact a2 i hi

set_option maxHeartbeats 2000000 in
set_option maxRecDepth 1000000 in
theorem wrong_walk (s : ByteArray) (w : World) (hs : s.size < 4294967296) (hT : Lib.Utf8Tabs 0 1 w) (h1 : 0 < w.heap.size) (h2 : 1 < w.heap.size) :
    Calls Tryz.prog 85 #[.string s] w fun e w' => e = .returned (.int .i64 (wroL s s.size 0)) ∧ Below w.heap.size w w' := by
  go_enter Tryz.func85, Tryz.ntmps85
  go_wp2
  go_loopg [] s.size (fun g wx => ∃ pos : Nat, wx.heap[w.heap.size]? = some (.stringIter s pos) ∧ Below w.heap.size w wx ∧ wroL s g pos = wroL s s.size 0 ∧ s.size ≤ pos + g)
  case atStart => exact ⟨0, World.iter_heap w s 0, (Below.refl _ w).alloc (Nat.le_refl _) _, rfl, by omega⟩
  case round =>
    obtain ⟨pos, hit, hbw, hleft, hfu⟩ := hrel
    have hsz : w.heap.size < wr.heap.size := (Array.getElem?_eq_some_iff.1 hit).1
    by_cases hp : pos < s.size
    · obtain ⟨g, rfl⟩ : ∃ g, gk = g + 1 := ⟨gk - 1, by omega⟩
      have hnx : ∀ ty, (Instr.next (.pointer (some ⟨w.heap.size, 0, none⟩)) true ty).run Tryz.prog wr = _ := fun ty => Lib.run_next_any_at wr w.heap.size s pos ty hit hp
      have hwd := Lib.width_pos s pos
      have hr1 := Lib.rune_le s pos
      obtain ⟨R, hR⟩ : ∃ R, (Utf8.decode s pos).1 = R := ⟨_, rfl⟩
      obtain ⟨K, hK⟩ : ∃ K, (Utf8.decode s pos).2 = K := ⟨_, rfl⟩
      simp only [wroL, hp, if_true, hR, hK] at hleft
      rw [hR, hK] at hnx
      rw [hR] at hr1
      rw [hK] at hwd
      have hit2 := Lib.iterAt_heap wr w.heap.size s pos (pos + K) hit
      have hbw2 := Lib.below_iterAt hbw (k := w.heap.size) (Nat.le_refl _) s (pos + K)
      obtain ⟨W, hWd⟩ : ∃ W, wr.iterAt w.heap.size s (pos + K) = W := ⟨_, rfl⟩
      rw [hWd] at hnx hit2 hbw2
      have cS := Tryz.utf8_DecodeRuneInString (s.extract pos s.size) W (tabs_below hT hbw2 h1 h2)
      have hWs : w.heap.size < W.heap.size := (Array.getElem?_eq_some_iff.1 hit2).1
      obtain ⟨D, hD⟩ : ∃ D, (Lib.decodeGo (s.extract pos s.size)).2 = D := ⟨_, rfl⟩
      rw [hD] at hleft cS
      by_cases hR2 : R = 65533
      · subst hR2
        by_cases hD2 : D < 2
        · rw [if_pos ⟨rfl, hD2⟩] at hleft
          have hD3 : (D : Int) < 2 := by omega
          replace hleft := hleft.symm
          go_wp2_with (go_at_call 113; go_fit cS; rintro e W' ⟨rfl, hb⟩)
          go_ret
          exact ⟨by simp [hleft], hbw2.trans (hb.mono (by omega))⟩
        · rw [if_neg (by omega)] at hleft
          have hD3 : ¬ (D : Int) < 2 := by omega
          go_wp2_with (go_at_call 113; go_fit cS; rintro e W' ⟨rfl, hb⟩)
          go_roundg g
          case measure => omega
          case rel => exact ⟨pos + K, (hb.block w.heap.size hWs).trans hit2, hbw2.trans (hb.mono (by omega)), hleft, by omega⟩
      · rw [if_neg (by omega)] at hleft
        have hR3 : (R : Int) ≠ 65533 := by omega
        go_wp2_with (go_at_call 113; go_fit cS; rintro e W' ⟨rfl, hb⟩)
        go_roundg g
        case measure => omega
        case rel => exact ⟨pos + K, (hb.block w.heap.size hWs).trans hit2, hbw2.trans (hb.mono (by omega)), hleft, by omega⟩
    · have hnx : ∀ ty, (Instr.next (.pointer (some ⟨w.heap.size, 0, none⟩)) true ty).run Tryz.prog wr = _ := fun ty => Lib.run_next_end_at wr w.heap.size s pos ty hit hp
      rw [wroL_end s gk pos hp] at hleft
      go_wp2
      go_ret
      exact ⟨by rw [← hleft] <;> rfl, hbw⟩
end Go.Proofs.YtpipbjfcbbdicaaGreatDoor

namespace Go.Proofs.YtpipbjfcbbdicaaGreatDoor
open Go Go.Abs

def wroF (s : List UInt8) : Int := wroL ⟨⟨s⟩⟩ s.length 0
theorem wrong_does (m : Int) (s : List UInt8) (hs : s.length < 4294967296) : Does Tryz.prog (GL m) 85 [.str s] [] fun ae _ => ae = .ret (.int .i64 (wroF s)) :=
  Does.of_calls (v := .int .i64 (wroF s)) Tryz.func85 rfl rfl (fun C => by simp [RepF]) fun C cargs hg hr => by
    rw [rep_str1 hr]
    obtain ⟨_, h1, _⟩ := hg.glob (0, firstCells) (by simp [GL])
    obtain ⟨_, h2, _⟩ := hg.glob (1, acceptCells) (by simp [GL])
    exact wrong_walk ⟨⟨s⟩⟩ C.w hs (tabs hg) h1.1 h2.1

section
attribute [local irreducible] DrawW CallW RetW AC Does CmpW BD CloW
set_option maxRecDepth 100000
def noPat : AV := .agg (patCells ⟨.nils, .nils, .nils, .nils⟩ false Num.zero)
/-- What Parse answers. -/
def parF (s : List UInt8) : AV × Int × Int :=
  if 100 < s.length then (noPat, 2, 0) else if 0 ≤ wroF s then (noPat, 1, wroF s) else match patF s with
    | .ok v => (encV v, 0, 0)
    | .error b => (noPat, 1, b)
def parV (r : AV × Int × Int) : AV := .tuple [r.1, .int .i64 r.2.1, .int .i64 r.2.2]

theorem Parse_does {m : Int} (s : List UInt8) (hs : s.length < 100000) : Does Tryz.prog (GL m) 60 [.str s] [] fun ae _ => ae = .ret (parV (parF s)) := by
  refine Does.ofBD Tryz.func60 rfl rfl ?_
  refine BD.seq tab ?_
  refine gos ?_
  intro v0
  refine gos ?_
  intro v1
  refine gos ?_
  intro v2
  refine gos ?_
  refine BD.seq tab ?_
  refine gos ?_
  by_cases h1 : 100 < s.length
  · refine CmpW.t (by simp; omega) ?_
    refine gos ?_
    refine RetW.plain (by simp) ?_
    simp only [parF, if_pos h1]
    rfl
  · refine CmpW.f (by simp; omega) ?_
    refine gos ?_
    refine BD.seq tab ?_
    refine gos ?_
    refine CallW.pure (wrong_does m s (by omega)) rfl rfl ?_
    refine gos ?_
    by_cases h2 : 0 ≤ wroF s
    · refine CmpW.t (by simpa using h2) ?_
      refine gos ?_
      refine RetW.plain (by simp) ?_
      simp only [parF, if_neg h1, if_pos h2]
      rfl
    · refine CmpW.f (by simpa using h2) ?_
      refine gos ?_
      refine BD.defer tab (d := 16) Tryz.func86 rfl rfl rfl rfl rfl rfl rfl rfl (by simp) ?_
      refine gos ?_
      intro v3
      refine gos ?_
      refine CallW.ofN [3] (as' := [.ptr 0 v3 0 0]) (pattern_does s v3 hs) ?_ rfl rfl ?_
      · exact hands_closed (O := [rdr v3 s 0]) (by simp) rfl (fun k j hk => by
          match k, hk with
          | 0, hk => have : 3 = j := by simpa using hk
                     subst this; rfl
          | k + 1, hk => simp at hk) (by simp [rdr, closedLL, closedL, closed])
      intro ae O hA hl
      obtain ⟨o, rfl⟩ : ∃ o, O = [o] := by
        match O, hl with
        | [o], _ => exact ⟨o, rfl⟩
      have hp : parF s = match patF s with
        | .ok v => (encV v, 0, 0)
        | .error b => (noPat, 1, (b : Int)) := by simp only [parF, if_neg h1, if_neg h2]
      cases hE : patF s with
      | error b =>
        rw [hE] at hA hp
        subst hA
        simp only [putR, ren, renL]
        refine CloW.of tab Tryz.func86 rfl rfl rfl (fun _ => rfl) rfl rfl rfl ?_
        refine gos ?_
        intro v4
        refine gos ?_
        refine DrawW.plan (.take 0 (.take 1 (.fork (.cons 2 (.take 3 (.take 4 (.take 5 .done))) (.cons 3 (.fork (.cons 2 (.take 4 (.take 5 .done)) (.cons 4 (.take 2 (.take 5 .done)) .nil))) .nil))))) (by kernel_rfl) (by kernel_rfl) ?_
        refine gos ?_
        refine And.intro ?_ (And.intro ?_ trivial)
        · refine gos ?_
          refine RetW.plain (by simp) ?_
          rw [hp]
          rfl
        · refine gos ?_
          refine And.intro ?_ (And.intro ?_ trivial)
          all_goals
            refine gos ?_
            refine RetW.plain (by simp) ?_
            rw [hp]
            rfl
      | ok v =>
        rw [hE] at hA hp
        subst hA
        obtain ⟨p, q, p', q', two, N⟩ := v
        cases two
        all_goals
          simp only [putR]
          refine gos ?_
          refine CloW.of tab Tryz.func86 rfl rfl rfl (fun _ => rfl) rfl rfl rfl ?_
          refine gos ?_
          intro v4
          refine gos ?_
          refine RetW.plain (by simp) ?_
          rw [hp]
          rfl
end
end Go.Proofs.YtpipbjfcbbdicaaGreatDoor
