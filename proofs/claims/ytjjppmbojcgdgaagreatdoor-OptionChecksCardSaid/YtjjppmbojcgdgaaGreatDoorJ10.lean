/- The reader of patterns: places, in order. -/
import Derived.Test.YtjjppmbojcgdgaaGreatDoorJ09
set_option linter.unusedVariables false
set_option linter.unusedSimpArgs false
set_option maxRecDepth 100000
set_option maxHeartbeats 4000000

namespace Go.Proofs.YtjjppmbojcgdgaaGreatDoor
open Go Go.Abs
attribute [local irreducible] DrawW CallW RetW AC Does CmpW
set_option maxRecDepth 100000
variable {G : Globs}
def mayC (N : Num) (cs : List Nat) : Bool := match cs with
  | [] => decide (0 < N.hash + N.mi)
  | [c] => decide (c < N.hash + N.mi)
  | _ => false
def whoL (s : List UInt8) : Nat → Nat → Num → List Nat → Nat × Num × List Nat
  | 0, a, N, cs => (a, N, cs)
  | f + 1, a, N, cs =>
    if N.mi = 0 ∧ pre s a [35] = true then whoL s f (a + 1) { N with hash := N.hash + 1 } cs
    else if pre s a [48] then whoL s f (a + 1) { N with mi := N.mi + 1 } cs
    else if mayC N cs = true ∧ pre s a [44] = true then whoL s f (a + 1) N (cs ++ [N.hash + N.mi])
    else (a, N, cs)
def whoF (s : List UInt8) (a : Nat) (N : Num) : Option (Num × Nat) :=
  (grpF ((whoL s (s.length + 1 - a) a N []).2.1.hash + (whoL s (s.length + 1 - a) a N []).2.1.mi) (whoL s (s.length + 1 - a) a N []).2.2 (whoL s (s.length + 1 - a) a N []).2.1).map fun N' => (N', (whoL s (s.length + 1 - a) a N []).1)
theorem whoF_of {s : List UInt8} {a b : Nat} {N N' : Num} {cs : List Nat} (h : whoL s (s.length + 1 - a) a N [] = (b, N', cs)) : whoF s a N = (grpF (N'.hash + N'.mi) cs N').map fun q => (q, b) := by
  unfold whoF; rw [h]
theorem short_cases {cs : List Nat} (h : cs.length ≤ 2) : cs = [] ∨ (∃ c, cs = [c]) ∨ ∃ c d, cs = [c, d] := by
  match cs, h with
  | [], _ => exact .inl rfl
  | [c], _ => exact .inr (.inl ⟨c, rfl⟩)
  | [c, d], _ => exact .inr (.inr ⟨c, d, rfl⟩)
set_option maxHeartbeats 4000000 in
theorem whole_does (s : List UInt8) (a ver pv : Nat) (x : Aff) (hx : x.ok) (two : Bool) (N : Num) (ha : a ≤ s.length) (hs : s.length < 100000) (hN : N.hash = 0 ∧ N.mi = 0) :
    Does Tryz.prog G 278 [.ptr 0 ver 0 0, .ptr 1 pv 0 0] [some (rdr ver s a), some (patO pv x two N)] fun ae O => match whoF s a N with
      | none => ∃ b, ae = .panic (faultV b) ∧ b = (whoL s (s.length + 1 - a) a N []).1
      | some r => ae = .ret (.tuple []) ∧ O = [some (rdr ver s r.2), some (patO pv x two r.1)] := by
  obtain ⟨h0, m0, mnf, mxf, gg, mm⟩ := N
  obtain ⟨rfl, rfl⟩ : h0 = 0 ∧ m0 = 0 := hN
  refine Does.body tab Tryz.func278 rfl rfl ?_
  refine gos ?_
  intro v1
  refine gos ?_
  refine AC.loopC tab (fun n e h => ∃ b N' cs cv, s.length < n + b ∧ b ≤ s.length ∧ N'.hash + N'.mi ≤ b ∧ cs.length ≤ 2 ∧ (∀ c ∈ cs, c ≤ N'.hash + N'.mi) ∧ (∀ c d, cs = [c, d] → c ≤ d) ∧ whoL s (s.length + 1 - a) a ⟨0, 0, mnf, mxf, gg, mm⟩ [] = whoL s n b N' cs ∧
    e = [.ptr 0 ver 0 0, .ptr 1 pv 0 0, .any, .any, .int .i64 (N'.hash + N'.mi : Nat), .sl 2 cv] ++ List.replicate 68 .any ∧
    h = [some (rdr ver s b), some (patO pv x two N'), some (intO cv cs)]) (s.length + 1 - a) ⟨_, fgts, a, ⟨0, 0, mnf, mxf, gg, mm⟩, [], v1, by omega, ha, by simp, by simp, by simp, by simp, rfl, rfl, rfl⟩ ?_
  rintro n e h ⟨b, N', cs, cv, hn, hb, hpl, hcl, hc1, hc2, hq, rfl, rfl⟩
  obtain ⟨n, rfl⟩ : ∃ m, n = m + 1 := ⟨n - 1, by omega⟩
  simp only [whoL] at hq
  refine gos ?_
  by_cases h1 : N'.mi = 0 ∧ pre s b [35] = true
  · obtain ⟨h11, h12⟩ := h1
    rw [if_pos ⟨h11, h12⟩] at hq
    have hle := pre_le h12 (by simp)
    simp only [List.length_cons, List.length_nil] at hle
    refine CmpW.t (by simp [h11]) ?_
    refine gos ?_
    refine CallW.meth 0 (take_yes 1 rfl h12 hle (by omega) _) rfl rfl rfl rfl rfl rfl ?_
    refine gos ?_
    have e1 : ((N'.hash + N'.mi : Nat) : Int) + 1 = ((N'.hash + 1 + N'.mi : Nat) : Int) := by omega
    rw [e1]
    refine ⟨n, _, 3, by omega, fgts, b + 1, { N' with hash := N'.hash + 1 }, cs, cv, by omega, by omega, by simp; omega, hcl, fun c hc => by have := hc1 c hc; simp; omega, hc2, hq, rfl, rfl⟩
  · rw [if_neg h1] at hq
    have key : (N'.mi = 0 ∧ pre s b [35] = false) ∨ N'.mi ≠ 0 := by
      by_cases hm : N'.mi = 0
      · left
        refine ⟨hm, ?_⟩
        cases hp : pre s b [35] with
        | true => exact absurd ⟨hm, hp⟩ h1
        | false => rfl
      · exact .inr hm
    rcases key with ⟨k1, k2⟩ | k1
    case' inl =>
      refine CmpW.t (by simp [k1]) ?_
      refine gos ?_
      refine CallW.meth 0 (take_no k2 hb _) rfl rfl rfl rfl rfl rfl ?_
      refine gos ?_
    case' inr =>
      refine CmpW.f (by simpa using k1) ?_
      refine gos ?_
    all_goals
      cases h2 : pre s b [48] with
      | true =>
        rw [if_pos h2] at hq
        have hle := pre_le h2 (by simp)
        simp only [List.length_cons, List.length_nil] at hle
        refine CallW.meth 0 (take_yes 1 rfl h2 hle (by omega) _) rfl rfl rfl rfl rfl rfl ?_
        refine gos ?_
        refine ⟨n, _, 3, by omega, fgts, b + 1, { N' with mi := N'.mi + 1 }, cs, cv, by omega, by omega, by simp; omega, hcl, fun c hc => by have := hc1 c hc; simp; omega, hc2, hq, rfl, rfl⟩
      | false =>
        rw [if_neg (by simp [h2])] at hq
        refine CallW.meth 0 (take_no h2 hb _) rfl rfl rfl rfl rfl rfl ?_
        refine gos ?_
        rcases short_cases hcl with rfl | ⟨c, rfl⟩ | ⟨c, d, rfl⟩
        · by_cases hp0 : 0 < N'.hash + N'.mi
          · refine CmpW.t (by simp; omega) ?_
            refine gos ?_
            cases h3 : pre s b [44] with
            | true =>
              rw [if_pos ⟨by simpa [mayC] using hp0, h3⟩] at hq
              have hle := pre_le h3 (by simp)
              simp only [List.length_cons, List.length_nil] at hle
              refine CallW.meth 0 (take_yes 1 rfl h3 hle (by omega) _) rfl rfl rfl rfl rfl rfl ?_
              refine gos ?_
              intro v3
              refine gos ?_
              refine And.intro (And.intro (fun y hy => by rcases List.mem_singleton.1 hy with rfl; rfl) (fun y hy => by rcases List.mem_singleton.1 hy with rfl; rfl)) ?_; refine And.intro (And.intro rfl trivial) ?_
              refine gos ?_
              intro v4
              refine gos ?_
              refine ⟨n, _, 3, by omega, fgts, b + 1, N', [N'.hash + N'.mi], v4, by omega, by omega, by omega, by simp, by simp, by simp, hq, rfl, rfl⟩
            | false =>
              rw [if_neg (by simp [h3])] at hq
              refine CallW.meth 0 (take_no h3 hb _) rfl rfl rfl rfl rfl rfl ?_
              refine gos ?_
              refine CallW.of3 0 1 2 (groups_does s b ver pv cv (N'.hash + N'.mi) x hx two N' _ (by omega) hcl hc1 hc2) (by decide) (by decide) (by decide) rfl rfl rfl rfl (patO_closed hx) (intO_closed _ _) rfl rfl ?_
              intro ae O hgr
              have hwf := whoF_of hq
              split at hgr
              · rename_i hgf
                rw [hgf] at hwf
                subst hgr
                refine ⟨rfl, fun s' hl => ?_⟩
                refine gos ?_
                refine ⟨by rw [hl]; simp, ?_⟩
                rw [hwf]
                exact ⟨b, rfl, by rw [hq]⟩
              · rename_i q hgf
                rw [hgf] at hwf
                obtain ⟨rfl, rfl⟩ := hgr
                refine ⟨_, _, _, rfl, rfl, patO_closed hx, intO_closed _ _, rfl, ?_⟩
                refine gos ?_
                refine RetW.plain (by simp) ?_
                rw [hwf]
                exact ⟨rfl, rfl⟩
          · rw [if_neg (by simp [mayC]; omega)] at hq
            refine CmpW.f (by simp; omega) ?_
            refine gos ?_
            refine CallW.of3 0 1 2 (groups_does s b ver pv cv (N'.hash + N'.mi) x hx two N' _ (by omega) hcl hc1 hc2) (by decide) (by decide) (by decide) rfl rfl rfl rfl (patO_closed hx) (intO_closed _ _) rfl rfl ?_
            intro ae O hgr
            have hwf := whoF_of hq
            split at hgr
            · rename_i hgf
              rw [hgf] at hwf
              subst hgr
              refine ⟨rfl, fun s' hl => ?_⟩
              refine gos ?_
              refine ⟨by rw [hl]; simp, ?_⟩
              rw [hwf]
              exact ⟨b, rfl, by rw [hq]⟩
            · rename_i q hgf
              rw [hgf] at hwf
              obtain ⟨rfl, rfl⟩ := hgr
              refine ⟨_, _, _, rfl, rfl, patO_closed hx, intO_closed _ _, rfl, ?_⟩
              refine gos ?_
              refine RetW.plain (by simp) ?_
              rw [hwf]
              exact ⟨rfl, rfl⟩
        · have hcc := hc1 c (by simp)
          by_cases hp0 : 0 < N'.hash + N'.mi
          · refine CmpW.t (by simp; omega) ?_
            refine gos ?_
            refine And.intro (by simp) ?_
            refine gos ?_
            by_cases hp1 : c < N'.hash + N'.mi
            · refine CmpW.t (by simp; omega) ?_
              refine gos ?_
              cases h3 : pre s b [44] with
              | true =>
                rw [if_pos ⟨by simpa [mayC] using hp1, h3⟩] at hq
                have hle := pre_le h3 (by simp)
                simp only [List.length_cons, List.length_nil] at hle
                refine CallW.meth 0 (take_yes 1 rfl h3 hle (by omega) _) rfl rfl rfl rfl rfl rfl ?_
                refine gos ?_
                intro v3
                refine gos ?_
                refine And.intro (And.intro (fun y hy => by rcases List.mem_singleton.1 hy with rfl; rfl) (fun y hy => by rcases List.mem_singleton.1 hy with rfl; rfl)) ?_; refine And.intro (And.intro rfl trivial) ?_
                refine gos ?_
                intro v4
                refine gos ?_
                refine ⟨n, _, 3, by omega, fgts, b + 1, N', [c, N'.hash + N'.mi], v4, by omega, by omega, by omega, by simp, by simp; omega, ?_, hq, rfl, rfl⟩
                intro c' d' e; simp at e; omega
              | false =>
                rw [if_neg (by simp [h3])] at hq
                refine CallW.meth 0 (take_no h3 hb _) rfl rfl rfl rfl rfl rfl ?_
                refine gos ?_
                refine CallW.of3 0 1 2 (groups_does s b ver pv cv (N'.hash + N'.mi) x hx two N' _ (by omega) hcl hc1 hc2) (by decide) (by decide) (by decide) rfl rfl rfl rfl (patO_closed hx) (intO_closed _ _) rfl rfl ?_
                intro ae O hgr
                have hwf := whoF_of hq
                split at hgr
                · rename_i hgf
                  rw [hgf] at hwf
                  subst hgr
                  refine ⟨rfl, fun s' hl => ?_⟩
                  refine gos ?_
                  refine ⟨by rw [hl]; simp, ?_⟩
                  rw [hwf]
                  exact ⟨b, rfl, by rw [hq]⟩
                · rename_i q hgf
                  rw [hgf] at hwf
                  obtain ⟨rfl, rfl⟩ := hgr
                  refine ⟨_, _, _, rfl, rfl, patO_closed hx, intO_closed _ _, rfl, ?_⟩
                  refine gos ?_
                  refine RetW.plain (by simp) ?_
                  rw [hwf]
                  exact ⟨rfl, rfl⟩
            · rw [if_neg (by simp [mayC]; omega)] at hq
              refine CmpW.f (by simp; omega) ?_
              refine gos ?_
              refine CallW.of3 0 1 2 (groups_does s b ver pv cv (N'.hash + N'.mi) x hx two N' _ (by omega) hcl hc1 hc2) (by decide) (by decide) (by decide) rfl rfl rfl rfl (patO_closed hx) (intO_closed _ _) rfl rfl ?_
              intro ae O hgr
              have hwf := whoF_of hq
              split at hgr
              · rename_i hgf
                rw [hgf] at hwf
                subst hgr
                refine ⟨rfl, fun s' hl => ?_⟩
                refine gos ?_
                refine ⟨by rw [hl]; simp, ?_⟩
                rw [hwf]
                exact ⟨b, rfl, by rw [hq]⟩
              · rename_i q hgf
                rw [hgf] at hwf
                obtain ⟨rfl, rfl⟩ := hgr
                refine ⟨_, _, _, rfl, rfl, patO_closed hx, intO_closed _ _, rfl, ?_⟩
                refine gos ?_
                refine RetW.plain (by simp) ?_
                rw [hwf]
                exact ⟨rfl, rfl⟩
          · rw [if_neg (by simp [mayC]; omega)] at hq
            refine CmpW.f (by simp; omega) ?_
            refine gos ?_
            refine CallW.of3 0 1 2 (groups_does s b ver pv cv (N'.hash + N'.mi) x hx two N' _ (by omega) hcl hc1 hc2) (by decide) (by decide) (by decide) rfl rfl rfl rfl (patO_closed hx) (intO_closed _ _) rfl rfl ?_
            intro ae O hgr
            have hwf := whoF_of hq
            split at hgr
            · rename_i hgf
              rw [hgf] at hwf
              subst hgr
              refine ⟨rfl, fun s' hl => ?_⟩
              refine gos ?_
              refine ⟨by rw [hl]; simp, ?_⟩
              rw [hwf]
              exact ⟨b, rfl, by rw [hq]⟩
            · rename_i q hgf
              rw [hgf] at hwf
              obtain ⟨rfl, rfl⟩ := hgr
              refine ⟨_, _, _, rfl, rfl, patO_closed hx, intO_closed _ _, rfl, ?_⟩
              refine gos ?_
              refine RetW.plain (by simp) ?_
              rw [hwf]
              exact ⟨rfl, rfl⟩
        · rw [if_neg (by simp [mayC])] at hq
          by_cases hp0 : 0 < N'.hash + N'.mi
          · refine CmpW.t (by simp; omega) ?_
            refine gos ?_
            refine CallW.of3 0 1 2 (groups_does s b ver pv cv (N'.hash + N'.mi) x hx two N' _ (by omega) hcl hc1 hc2) (by decide) (by decide) (by decide) rfl rfl rfl rfl (patO_closed hx) (intO_closed _ _) rfl rfl ?_
            intro ae O hgr
            have hwf := whoF_of hq
            split at hgr
            · rename_i hgf
              rw [hgf] at hwf
              subst hgr
              refine ⟨rfl, fun s' hl => ?_⟩
              refine gos ?_
              refine ⟨by rw [hl]; simp, ?_⟩
              rw [hwf]
              exact ⟨b, rfl, by rw [hq]⟩
            · rename_i q hgf
              rw [hgf] at hwf
              obtain ⟨rfl, rfl⟩ := hgr
              refine ⟨_, _, _, rfl, rfl, patO_closed hx, intO_closed _ _, rfl, ?_⟩
              refine gos ?_
              refine RetW.plain (by simp) ?_
              rw [hwf]
              exact ⟨rfl, rfl⟩
          · refine CmpW.f (by simp; omega) ?_
            refine gos ?_
            refine CallW.of3 0 1 2 (groups_does s b ver pv cv (N'.hash + N'.mi) x hx two N' _ (by omega) hcl hc1 hc2) (by decide) (by decide) (by decide) rfl rfl rfl rfl (patO_closed hx) (intO_closed _ _) rfl rfl ?_
            intro ae O hgr
            have hwf := whoF_of hq
            split at hgr
            · rename_i hgf
              rw [hgf] at hwf
              subst hgr
              refine ⟨rfl, fun s' hl => ?_⟩
              refine gos ?_
              refine ⟨by rw [hl]; simp, ?_⟩
              rw [hwf]
              exact ⟨b, rfl, by rw [hq]⟩
            · rename_i q hgf
              rw [hgf] at hwf
              obtain ⟨rfl, rfl⟩ := hgr
              refine ⟨_, _, _, rfl, rfl, patO_closed hx, intO_closed _ _, rfl, ?_⟩
              refine gos ?_
              refine RetW.plain (by simp) ?_
              rw [hwf]
              exact ⟨rfl, rfl⟩
end Go.Proofs.YtjjppmbojcgdgaaGreatDoor
