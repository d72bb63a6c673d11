/- The reader of classes: its small steps. -/
import Derived.Test.YtpbjjhpihhnomaaGreatDoorJ08
import Derived.Test.YtpbjjhpihhnomaaGreatDoorJ07
set_option linter.unusedVariables false
set_option linter.unusedSimpArgs false
set_option maxRecDepth 100000
set_option maxHeartbeats 4000000

namespace Go.Proofs.YtpbjjhpihhnomaaGreatDoor
open Go Go.Abs
attribute [local irreducible] DrawW CallW RetW AC Does CmpW
set_option maxRecDepth 100000
variable {G : Globs}
structure Num where
  hash : Nat
  mi : Nat
  mnf : Nat
  mxf : Nat
  g : Nat
  m : Nat
def Num.zero : Num := ⟨0, 0, 0, 0, 0, 0⟩
structure Aff where
  a : AV
  b : AV
  c : AV
  d : AV
def Aff.ok (x : Aff) : Prop := closed x.a = true ∧ closed x.b = true ∧ closed x.c = true ∧ closed x.d = true
def patCells (x : Aff) (two : Bool) (N : Num) : List AV := [x.a, x.b, x.c, x.d, .bool two, .int .i64 N.hash, .int .i64 N.mi, .int .i64 N.mnf, .int .i64 N.mxf, .int .i64 N.g, .int .i64 N.m]
def patO (pv : Nat) (x : Aff) (two : Bool) (N : Num) : AObj := ⟨pv, 48, 11, [patCells x two N]⟩
theorem patO_closed {pv : Nat} {x : Aff} {two : Bool} {N : Num} (h : x.ok) : closedLL (patO pv x two N).es = true := by
  obtain ⟨h1, h2, h3, h4⟩ := h
  simp [patO, patCells, closedLL, closedL, h1, h2, h3, h4, closed]
def ints (cs : List Nat) : List (List AV) := cs.map fun (c : Nat) => [.int .i64 (c : Int)]
def intO (cv : Nat) (cs : List Nat) : AObj := ⟨cv, 3, 1, ints cs⟩
@[simp] theorem intO_len (cv : Nat) (cs : List Nat) : (intO cv cs).es.length = cs.length := by simp [intO, ints]
theorem intO_closed (cv : Nat) : ∀ cs : List Nat, closedLL (intO cv cs).es = true
  | [] => rfl
  | c :: cs => by
    have := intO_closed cv cs
    simp only [intO, ints] at this
    simp [intO, ints, closedLL, closedL, closed, this]
def grpF (places : Nat) (cs : List Nat) (N : Num) : Option Num :=
  if places = 0 then none else match cs with
    | [] => some N
    | [c] => if places = c then none else some { N with g := places - c }
    | [c, d] => if places = d then none else if d - c = places - d then some { N with g := places - d } else some { N with g := places - d, m := d - c }
    | _ => none
theorem groups_does (s : List UInt8) (a ver pv cv places : Nat) (x : Aff) (hx : x.ok) (two : Bool) (N : Num) (cs : List Nat) (hp : places < 1000000) (hc : cs.length ≤ 2) (h1 : ∀ c ∈ cs, c ≤ places) (h2 : ∀ c d, cs = [c, d] → c ≤ d) :
    Does Tryz.prog G 289 [.ptr 0 ver 0 0, .ptr 1 pv 0 0, .int .i64 places, .sl 2 cv] [some (rdr ver s a), some (patO pv x two N), some (intO cv cs)] fun ae O => match grpF places cs N with
      | none => ae = .panic (faultV a)
      | some N' => ae = .ret (.tuple []) ∧ O = [some (rdr ver s a), some (patO pv x two N'), some (intO cv cs)] := by
  refine Does.body tab Tryz.func289 rfl rfl ?_
  refine gos ?_
  by_cases h0 : places = 0
  · refine CmpW.t (by simpa using h0) ?_
    refine gos ?_
    refine CallW.of1 0 (fail_does s a ver) rfl rfl rfl rfl ?_
    rintro ae O ⟨rfl, rfl⟩
    refine ⟨_, rfl, rfl, rfl, ?_⟩
    refine gos ?_
    refine ⟨by simp, ?_⟩
    simp [grpF, h0]
  · refine CmpW.f (by simpa using h0) ?_
    refine gos ?_
    match cs, hc with
    | [], _ =>
      refine gos ?_
      refine RetW.plain (by simp) ?_
      simp [grpF, h0]
    | [c], _ =>
      have hc1 := h1 c (by simp)
      refine gos ?_
      refine And.intro (by simp) ?_
      refine gos ?_
      have e1 : (places : Int) - (c : Int) = ((places - c : Nat) : Int) := by omega
      rw [e1]
      by_cases hg : places = c
      · refine CmpW.t (by simp; omega) ?_
        refine gos ?_
        refine CallW.of1 0 (fail_does s a ver) rfl rfl rfl rfl ?_
        rintro ae O ⟨rfl, rfl⟩
        refine ⟨_, rfl, rfl, rfl, ?_⟩
        refine gos ?_
        refine ⟨by simp, ?_⟩
        simp [grpF, h0, hg]
      · refine CmpW.f (by simp; omega) ?_
        refine gos ?_
        refine DrawW.L ?_
        refine gos ?_
        refine RetW.plain (by simp) ?_
        simp only [grpF, if_neg h0, if_neg hg]
        exact ⟨trivial, rfl⟩
    | [c, d], _ =>
      have hc1 := h1 c (by simp)
      have hd1 := h1 d (by simp)
      have hcd := h2 c d rfl
      refine gos ?_
      refine And.intro (by simp) ?_
      refine gos ?_
      have e1 : (places : Int) - (d : Int) = ((places - d : Nat) : Int) := by omega
      rw [e1]
      by_cases hg : places = d
      · refine CmpW.t (by simp; omega) ?_
        refine gos ?_
        refine CallW.of1 0 (fail_does s a ver) rfl rfl rfl rfl ?_
        rintro ae O ⟨rfl, rfl⟩
        refine ⟨_, rfl, rfl, rfl, ?_⟩
        refine gos ?_
        refine ⟨by simp, ?_⟩
        simp [grpF, h0, hg]
      · refine CmpW.f (by simp; omega) ?_
        refine gos ?_
        refine DrawW.L ?_
        refine gos ?_
        refine And.intro (by simp) ?_
        refine gos ?_
        have e2 : (d : Int) - (c : Int) = ((d - c : Nat) : Int) := by omega
        rw [e2]
        by_cases hm : d - c = places - d
        · refine CmpW.f (by simp; omega) ?_
          refine gos ?_
          refine RetW.plain (by simp) ?_
          simp only [grpF, if_neg h0, if_neg hg, if_pos hm]
          exact ⟨trivial, rfl⟩
        · refine CmpW.t (by simp; omega) ?_
          refine gos ?_
          refine And.intro (by simp) ?_
          refine gos ?_
          have e2 : (d : Int) - (c : Int) = ((d - c : Nat) : Int) := by omega
          rw [e2]
          refine gos ?_
          refine RetW.plain (by simp) ?_
          simp only [grpF, if_neg h0, if_neg hg, if_neg hm]
          exact ⟨trivial, rfl⟩
end Go.Proofs.YtpbjjhpihhnomaaGreatDoor

namespace Go.Proofs.YtpbjjhpihhnomaaGreatDoor
open Go Go.Abs
attribute [local irreducible] DrawW CallW RetW AC Does CmpW
set_option maxRecDepth 100000
variable {G : Globs}
def mayC (N : Num) (cs : List Nat) : Bool := match cs with
  | [] => decide (0 < N.hash + N.mi)
  | [c] => decide (c < N.hash + N.mi)
  | _ => false
def whoL (s : List UInt8) : Nat → Nat → Num → List Nat → Nat × Num × List Nat
  | 0, a, N, cs => (a, N, cs)
  | f + 1, a, N, cs =>
    if N.mi = 0 ∧ pre s a [35] = true then whoL s f (a + 1) { N with hash := N.hash + 1 } cs
    else if pre s a [48] then whoL s f (a + 1) { N with mi := N.mi + 1 } cs
    else if mayC N cs = true ∧ pre s a [44] = true then whoL s f (a + 1) N (cs ++ [N.hash + N.mi])
    else (a, N, cs)
def whoF (s : List UInt8) (a : Nat) (N : Num) : Option (Num × Nat) :=
  (grpF ((whoL s (s.length + 1 - a) a N []).2.1.hash + (whoL s (s.length + 1 - a) a N []).2.1.mi) (whoL s (s.length + 1 - a) a N []).2.2 (whoL s (s.length + 1 - a) a N []).2.1).map fun N' => (N', (whoL s (s.length + 1 - a) a N []).1)
theorem whoF_of {s : List UInt8} {a b : Nat} {N N' : Num} {cs : List Nat} (h : whoL s (s.length + 1 - a) a N [] = (b, N', cs)) : whoF s a N = (grpF (N'.hash + N'.mi) cs N').map fun q => (q, b) := by
  unfold whoF; rw [h]
theorem short_cases {cs : List Nat} (h : cs.length ≤ 2) : cs = [] ∨ (∃ c, cs = [c]) ∨ ∃ c d, cs = [c, d] := by
  match cs, h with
  | [], _ => exact .inl rfl
  | [c], _ => exact .inr (.inl ⟨c, rfl⟩)
  | [c, d], _ => exact .inr (.inr ⟨c, d, rfl⟩)
set_option maxHeartbeats 4000000 in
theorem whole_does (s : List UInt8) (a ver pv : Nat) (x : Aff) (hx : x.ok) (two : Bool) (N : Num) (ha : a ≤ s.length) (hs : s.length < 100000) (hN : N.hash = 0 ∧ N.mi = 0) :
    Does Tryz.prog G 268 [.ptr 0 ver 0 0, .ptr 1 pv 0 0] [some (rdr ver s a), some (patO pv x two N)] fun ae O => match whoF s a N with
      | none => ∃ b, ae = .panic (faultV b) ∧ b = (whoL s (s.length + 1 - a) a N []).1
      | some r => ae = .ret (.tuple []) ∧ O = [some (rdr ver s r.2), some (patO pv x two r.1)] := by
  obtain ⟨h0, m0, mnf, mxf, gg, mm⟩ := N
  obtain ⟨rfl, rfl⟩ : h0 = 0 ∧ m0 = 0 := hN
  refine Does.body tab Tryz.func268 rfl rfl ?_
  refine gos ?_
  intro v1
  refine gos ?_
  refine AC.loopC tab (fun n e h => ∃ b N' cs cv, s.length < n + b ∧ b ≤ s.length ∧ N'.hash + N'.mi ≤ b ∧ cs.length ≤ 2 ∧ (∀ c ∈ cs, c ≤ N'.hash + N'.mi) ∧ (∀ c d, cs = [c, d] → c ≤ d) ∧ whoL s (s.length + 1 - a) a ⟨0, 0, mnf, mxf, gg, mm⟩ [] = whoL s n b N' cs ∧
    e = [.ptr 0 ver 0 0, .ptr 1 pv 0 0, .any, .any, .int .i64 (N'.hash + N'.mi : Nat), .sl 2 cv] ++ List.replicate 68 .any ∧
    h = [some (rdr ver s b), some (patO pv x two N'), some (intO cv cs)]) (s.length + 1 - a) ⟨_, fgts, a, ⟨0, 0, mnf, mxf, gg, mm⟩, [], v1, by omega, ha, by simp, by simp, by simp, by simp, rfl, rfl, rfl⟩ ?_
  rintro n e h ⟨b, N', cs, cv, hn, hb, hpl, hcl, hc1, hc2, hq, rfl, rfl⟩
  obtain ⟨n, rfl⟩ : ∃ m, n = m + 1 := ⟨n - 1, by omega⟩
  simp only [whoL] at hq
  refine gos ?_
  by_cases h1 : N'.mi = 0 ∧ pre s b [35] = true
  · obtain ⟨h11, h12⟩ := h1
    rw [if_pos ⟨h11, h12⟩] at hq
    have hle := pre_le h12 (by simp)
    simp only [List.length_cons, List.length_nil] at hle
    refine CmpW.t (by simp [h11]) ?_
    refine gos ?_
    refine CallW.meth 0 (take_yes 1 rfl h12 hle (by omega) _) rfl rfl rfl rfl rfl rfl ?_
    refine gos ?_
    have e1 : ((N'.hash + N'.mi : Nat) : Int) + 1 = ((N'.hash + 1 + N'.mi : Nat) : Int) := by omega
    rw [e1]
    refine ⟨n, _, 3, by omega, fgts, b + 1, { N' with hash := N'.hash + 1 }, cs, cv, by omega, by omega, by simp; omega, hcl, fun c hc => by have := hc1 c hc; simp; omega, hc2, hq, rfl, rfl⟩
  · rw [if_neg h1] at hq
    have key : (N'.mi = 0 ∧ pre s b [35] = false) ∨ N'.mi ≠ 0 := by
      by_cases hm : N'.mi = 0
      · left
        refine ⟨hm, ?_⟩
        cases hp : pre s b [35] with
        | true => exact absurd ⟨hm, hp⟩ h1
        | false => rfl
      · exact .inr hm
    rcases key with ⟨k1, k2⟩ | k1
    case' inl =>
      refine CmpW.t (by simp [k1]) ?_
      refine gos ?_
      refine CallW.meth 0 (take_no k2 hb _) rfl rfl rfl rfl rfl rfl ?_
      refine gos ?_
    case' inr =>
      refine CmpW.f (by simpa using k1) ?_
      refine gos ?_
    all_goals
      cases h2 : pre s b [48] with
      | true =>
        rw [if_pos h2] at hq
        have hle := pre_le h2 (by simp)
        simp only [List.length_cons, List.length_nil] at hle
        refine CallW.meth 0 (take_yes 1 rfl h2 hle (by omega) _) rfl rfl rfl rfl rfl rfl ?_
        refine gos ?_
        refine ⟨n, _, 3, by omega, fgts, b + 1, { N' with mi := N'.mi + 1 }, cs, cv, by omega, by omega, by simp; omega, hcl, fun c hc => by have := hc1 c hc; simp; omega, hc2, hq, rfl, rfl⟩
      | false =>
        rw [if_neg (by simp [h2])] at hq
        refine CallW.meth 0 (take_no h2 hb _) rfl rfl rfl rfl rfl rfl ?_
        refine gos ?_
        rcases short_cases hcl with rfl | ⟨c, rfl⟩ | ⟨c, d, rfl⟩
        · by_cases hp0 : 0 < N'.hash + N'.mi
          · refine CmpW.t (by simp; omega) ?_
            refine gos ?_
            cases h3 : pre s b [44] with
            | true =>
              rw [if_pos ⟨by simpa [mayC] using hp0, h3⟩] at hq
              have hle := pre_le h3 (by simp)
              simp only [List.length_cons, List.length_nil] at hle
              refine CallW.meth 0 (take_yes 1 rfl h3 hle (by omega) _) rfl rfl rfl rfl rfl rfl ?_
              refine gos ?_
              intro v3
              refine gos ?_
              refine And.intro (And.intro (fun y hy => by rcases List.mem_singleton.1 hy with rfl; rfl) (fun y hy => by rcases List.mem_singleton.1 hy with rfl; rfl)) ?_; refine And.intro (And.intro rfl trivial) ?_
              refine gos ?_
              intro v4
              refine gos ?_
              refine ⟨n, _, 3, by omega, fgts, b + 1, N', [N'.hash + N'.mi], v4, by omega, by omega, by omega, by simp, by simp, by simp, hq, rfl, rfl⟩
            | false =>
              rw [if_neg (by simp [h3])] at hq
              refine CallW.meth 0 (take_no h3 hb _) rfl rfl rfl rfl rfl rfl ?_
              refine gos ?_
              refine CallW.of3 0 1 2 (groups_does s b ver pv cv (N'.hash + N'.mi) x hx two N' _ (by omega) hcl hc1 hc2) (by decide) (by decide) (by decide) rfl rfl rfl rfl (patO_closed hx) (intO_closed _ _) rfl rfl ?_
              intro ae O hgr
              have hwf := whoF_of hq
              split at hgr
              · rename_i hgf
                rw [hgf] at hwf
                subst hgr
                refine ⟨rfl, fun s' hl => ?_⟩
                refine gos ?_
                refine ⟨by rw [hl]; simp, ?_⟩
                rw [hwf]
                exact ⟨b, rfl, by rw [hq]⟩
              · rename_i q hgf
                rw [hgf] at hwf
                obtain ⟨rfl, rfl⟩ := hgr
                refine ⟨_, _, _, rfl, rfl, patO_closed hx, intO_closed _ _, rfl, ?_⟩
                refine gos ?_
                refine RetW.plain (by simp) ?_
                rw [hwf]
                exact ⟨rfl, rfl⟩
          · rw [if_neg (by simp [mayC]; omega)] at hq
            refine CmpW.f (by simp; omega) ?_
            refine gos ?_
            refine CallW.of3 0 1 2 (groups_does s b ver pv cv (N'.hash + N'.mi) x hx two N' _ (by omega) hcl hc1 hc2) (by decide) (by decide) (by decide) rfl rfl rfl rfl (patO_closed hx) (intO_closed _ _) rfl rfl ?_
            intro ae O hgr
            have hwf := whoF_of hq
            split at hgr
            · rename_i hgf
              rw [hgf] at hwf
              subst hgr
              refine ⟨rfl, fun s' hl => ?_⟩
              refine gos ?_
              refine ⟨by rw [hl]; simp, ?_⟩
              rw [hwf]
              exact ⟨b, rfl, by rw [hq]⟩
            · rename_i q hgf
              rw [hgf] at hwf
              obtain ⟨rfl, rfl⟩ := hgr
              refine ⟨_, _, _, rfl, rfl, patO_closed hx, intO_closed _ _, rfl, ?_⟩
              refine gos ?_
              refine RetW.plain (by simp) ?_
              rw [hwf]
              exact ⟨rfl, rfl⟩
        · have hcc := hc1 c (by simp)
          by_cases hp0 : 0 < N'.hash + N'.mi
          · refine CmpW.t (by simp; omega) ?_
            refine gos ?_
            refine And.intro (by simp) ?_
            refine gos ?_
            by_cases hp1 : c < N'.hash + N'.mi
            · refine CmpW.t (by simp; omega) ?_
              refine gos ?_
              cases h3 : pre s b [44] with
              | true =>
                rw [if_pos ⟨by simpa [mayC] using hp1, h3⟩] at hq
                have hle := pre_le h3 (by simp)
                simp only [List.length_cons, List.length_nil] at hle
                refine CallW.meth 0 (take_yes 1 rfl h3 hle (by omega) _) rfl rfl rfl rfl rfl rfl ?_
                refine gos ?_
                intro v3
                refine gos ?_
                refine And.intro (And.intro (fun y hy => by rcases List.mem_singleton.1 hy with rfl; rfl) (fun y hy => by rcases List.mem_singleton.1 hy with rfl; rfl)) ?_; refine And.intro (And.intro rfl trivial) ?_
                refine gos ?_
                intro v4
                refine gos ?_
                refine ⟨n, _, 3, by omega, fgts, b + 1, N', [c, N'.hash + N'.mi], v4, by omega, by omega, by omega, by simp, by simp; omega, ?_, hq, rfl, rfl⟩
                intro c' d' e; simp at e; omega
              | false =>
                rw [if_neg (by simp [h3])] at hq
                refine CallW.meth 0 (take_no h3 hb _) rfl rfl rfl rfl rfl rfl ?_
                refine gos ?_
                refine CallW.of3 0 1 2 (groups_does s b ver pv cv (N'.hash + N'.mi) x hx two N' _ (by omega) hcl hc1 hc2) (by decide) (by decide) (by decide) rfl rfl rfl rfl (patO_closed hx) (intO_closed _ _) rfl rfl ?_
                intro ae O hgr
                have hwf := whoF_of hq
                split at hgr
                · rename_i hgf
                  rw [hgf] at hwf
                  subst hgr
                  refine ⟨rfl, fun s' hl => ?_⟩
                  refine gos ?_
                  refine ⟨by rw [hl]; simp, ?_⟩
                  rw [hwf]
                  exact ⟨b, rfl, by rw [hq]⟩
                · rename_i q hgf
                  rw [hgf] at hwf
                  obtain ⟨rfl, rfl⟩ := hgr
                  refine ⟨_, _, _, rfl, rfl, patO_closed hx, intO_closed _ _, rfl, ?_⟩
                  refine gos ?_
                  refine RetW.plain (by simp) ?_
                  rw [hwf]
                  exact ⟨rfl, rfl⟩
            · rw [if_neg (by simp [mayC]; omega)] at hq
              refine CmpW.f (by simp; omega) ?_
              refine gos ?_
              refine CallW.of3 0 1 2 (groups_does s b ver pv cv (N'.hash + N'.mi) x hx two N' _ (by omega) hcl hc1 hc2) (by decide) (by decide) (by decide) rfl rfl rfl rfl (patO_closed hx) (intO_closed _ _) rfl rfl ?_
              intro ae O hgr
              have hwf := whoF_of hq
              split at hgr
              · rename_i hgf
                rw [hgf] at hwf
                subst hgr
                refine ⟨rfl, fun s' hl => ?_⟩
                refine gos ?_
                refine ⟨by rw [hl]; simp, ?_⟩
                rw [hwf]
                exact ⟨b, rfl, by rw [hq]⟩
              · rename_i q hgf
                rw [hgf] at hwf
                obtain ⟨rfl, rfl⟩ := hgr
                refine ⟨_, _, _, rfl, rfl, patO_closed hx, intO_closed _ _, rfl, ?_⟩
                refine gos ?_
                refine RetW.plain (by simp) ?_
                rw [hwf]
                exact ⟨rfl, rfl⟩
          · rw [if_neg (by simp [mayC]; omega)] at hq
            refine CmpW.f (by simp; omega) ?_
            refine gos ?_
            refine CallW.of3 0 1 2 (groups_does s b ver pv cv (N'.hash + N'.mi) x hx two N' _ (by omega) hcl hc1 hc2) (by decide) (by decide) (by decide) rfl rfl rfl rfl (patO_closed hx) (intO_closed _ _) rfl rfl ?_
            intro ae O hgr
            have hwf := whoF_of hq
            split at hgr
            · rename_i hgf
              rw [hgf] at hwf
              subst hgr
              refine ⟨rfl, fun s' hl => ?_⟩
              refine gos ?_
              refine ⟨by rw [hl]; simp, ?_⟩
              rw [hwf]
              exact ⟨b, rfl, by rw [hq]⟩
            · rename_i q hgf
              rw [hgf] at hwf
              obtain ⟨rfl, rfl⟩ := hgr
              refine ⟨_, _, _, rfl, rfl, patO_closed hx, intO_closed _ _, rfl, ?_⟩
              refine gos ?_
              refine RetW.plain (by simp) ?_
              rw [hwf]
              exact ⟨rfl, rfl⟩
        · rw [if_neg (by simp [mayC])] at hq
          by_cases hp0 : 0 < N'.hash + N'.mi
          · refine CmpW.t (by simp; omega) ?_
            refine gos ?_
            refine CallW.of3 0 1 2 (groups_does s b ver pv cv (N'.hash + N'.mi) x hx two N' _ (by omega) hcl hc1 hc2) (by decide) (by decide) (by decide) rfl rfl rfl rfl (patO_closed hx) (intO_closed _ _) rfl rfl ?_
            intro ae O hgr
            have hwf := whoF_of hq
            split at hgr
            · rename_i hgf
              rw [hgf] at hwf
              subst hgr
              refine ⟨rfl, fun s' hl => ?_⟩
              refine gos ?_
              refine ⟨by rw [hl]; simp, ?_⟩
              rw [hwf]
              exact ⟨b, rfl, by rw [hq]⟩
            · rename_i q hgf
              rw [hgf] at hwf
              obtain ⟨rfl, rfl⟩ := hgr
              refine ⟨_, _, _, rfl, rfl, patO_closed hx, intO_closed _ _, rfl, ?_⟩
              refine gos ?_
              refine RetW.plain (by simp) ?_
              rw [hwf]
              exact ⟨rfl, rfl⟩
          · refine CmpW.f (by simp; omega) ?_
            refine gos ?_
            refine CallW.of3 0 1 2 (groups_does s b ver pv cv (N'.hash + N'.mi) x hx two N' _ (by omega) hcl hc1 hc2) (by decide) (by decide) (by decide) rfl rfl rfl rfl (patO_closed hx) (intO_closed _ _) rfl rfl ?_
            intro ae O hgr
            have hwf := whoF_of hq
            split at hgr
            · rename_i hgf
              rw [hgf] at hwf
              subst hgr
              refine ⟨rfl, fun s' hl => ?_⟩
              refine gos ?_
              refine ⟨by rw [hl]; simp, ?_⟩
              rw [hwf]
              exact ⟨b, rfl, by rw [hq]⟩
            · rename_i q hgf
              rw [hgf] at hwf
              obtain ⟨rfl, rfl⟩ := hgr
              refine ⟨_, _, _, rfl, rfl, patO_closed hx, intO_closed _ _, rfl, ?_⟩
              refine gos ?_
              refine RetW.plain (by simp) ?_
              rw [hwf]
              exact ⟨rfl, rfl⟩
end Go.Proofs.YtpbjjhpihhnomaaGreatDoor

namespace Go.Proofs.YtpbjjhpihhnomaaGreatDoor
open Go Go.Abs
attribute [local irreducible] DrawW CallW RetW AC Does CmpW
variable {G : Globs}
def cro (ver : Nat) (s : List UInt8) (a : Nat) (bad : Int) : AObj := ⟨ver, 320, 3, [[.str s, .int .i64 a, .int .i64 bad]]⟩
def bd (a : Nat) (bad : Int) : Int := if bad < 0 then a else bad
theorem cfail_does (s : List UInt8) (a : Nat) (bad : Int) (ver : Nat) : Does Tryz.prog G 242 [.ptr 0 ver 0 0] [some (cro ver s a bad)] fun ae O => ae = .ret (.tuple []) ∧ O = [some (cro ver s a (bd a bad))] := by
  refine Does.body tab Tryz.func242 rfl rfl ?_
  refine gos ?_
  by_cases h : bad < 0
  · refine CmpW.T ?_
    refine gos ?_
    refine RetW.plain (by simp) ?_
    simp only [bd, if_pos h]
    (first | exact ⟨rfl, rfl⟩ | exact ⟨trivial, rfl⟩ | exact ⟨rfl, trivial⟩ | rfl | trivial | done)
  · refine CmpW.N ?_
    refine gos ?_
    refine RetW.plain (by simp) ?_
    simp only [bd, if_neg h]
    (first | exact ⟨rfl, rfl⟩ | exact ⟨trivial, rfl⟩ | exact ⟨rfl, trivial⟩ | rfl | trivial | done)
theorem cpeek_does (s : List UInt8) (a : Nat) (bad : Int) (ha : a ≤ s.length) (hs : s.length < 100000) (ver : Nat) :
    Does Tryz.prog G 244 [.ptr 0 ver 0 0] [some (cro ver s a bad)] fun ae O => ae = .ret (.int .u8 (pk s a)) ∧ O = [some (cro ver s (bl s a) bad)] := by
  refine Does.bodyA tab Tryz.func244 rfl rfl ?_
  refine AC.step tab ?_
  refine gos ?_
  refine AC.cutF tab (fun e h => e = [.ptr 0 ver 0 0] ++ List.replicate 50 .any ∧ h = [some (cro ver s (bl s a) bad)]) ?_ ?_
  · refine AC.loopC tab (fun f e h => ∃ k, s.length < f + (a + k) ∧ a + k ≤ s.length ∧ k ≤ tw s (fun c => c == 32) a ∧ e = [.ptr 0 ver 0 0] ++ List.replicate 50 .any ∧ h = [some (cro ver s (a + k) bad)]) (s.length + 1) ⟨_, fgts, 0, by omega, by omega, by omega, rfl, rfl⟩ ?_
    rintro f e h ⟨k, hf, hk, hkt, rfl, rfl⟩
    refine gos ?_
    refine DrawW.L ?_
    refine gos ?_
    by_cases hlt : a + k < s.length
    · obtain ⟨c, hc⟩ : ∃ c, s[a + k]? = some c := ⟨_, List.getElem?_eq_getElem hlt⟩
      refine CmpW.t (by simp; omega) ?_
      refine gos ?_
      refine And.intro (by omega) ⟨c, hc, ?_⟩
      refine gos ?_
      by_cases h32 : c = 32
      · subst h32
        refine CmpW.t (by simp) ?_
        refine gos ?_
        refine ⟨f - 1, _, 1, by omega, fgts, k + 1, by omega, by omega, tw_go hkt hc rfl, rfl, rfl⟩
      · refine CmpW.f (by simp; exact fun h => h32 (u8_of h rfl)) ?_
        refine gos ?_
        have : bl s a = a + k := by unfold bl; rw [← tw_stop hkt fun d hd => by rw [hc] at hd; cases hd; simpa using h32]
        rw [this]
        exact ⟨_, 1, fgts, rfl, rfl⟩
    · refine CmpW.f (by simp; omega) ?_
      refine gos ?_
      have : bl s a = a + k := by unfold bl; rw [← tw_stop hkt fun d hd => by rw [List.getElem?_eq_none (by omega)] at hd; cases hd]
      rw [this]
      exact ⟨_, 1, fgts, rfl, rfl⟩
  rintro e h ⟨rfl, rfl⟩
  refine AC.go tab ?_
  refine gos ?_
  refine DrawW.L ?_
  refine gos ?_
  have hb := bl_le ha
  by_cases hlt : bl s a < s.length
  · obtain ⟨c, hc⟩ : ∃ c, s[bl s a]? = some c := ⟨_, List.getElem?_eq_getElem hlt⟩
    refine CmpW.f (by simp; omega) ?_
    refine gos ?_
    refine DrawW.L ?_
    refine gos ?_
    refine And.intro (by omega) ⟨c, hc, ?_⟩
    refine gos ?_
    refine RetW.plain (by simp) ?_
    simp only [pk, hc]
    (first | exact ⟨rfl, rfl⟩ | exact ⟨trivial, rfl⟩ | exact ⟨rfl, trivial⟩ | rfl | trivial | done)
  · refine CmpW.t (by simp; omega) ?_
    refine gos ?_
    refine RetW.plain (by simp) ?_
    simp only [pk, List.getElem?_eq_none (show s.length ≤ bl s a by omega)]
    (first | exact ⟨rfl, rfl⟩ | exact ⟨trivial, rfl⟩ | exact ⟨rfl, trivial⟩ | rfl | trivial | done)
def nx (s : List UInt8) (a : Nat) (b : UInt8) : Bool := decide (s[bl s a]? = some b)
def nxE (s : List UInt8) (a : Nat) (b : UInt8) : Nat := if nx s a b then bl s a + 1 else bl s a
theorem nxE_le {s : List UInt8} {a : Nat} (b : UInt8) (ha : a ≤ s.length) : a ≤ nxE s a b ∧ nxE s a b ≤ s.length := by
  have hb := bl_le ha
  unfold nxE nx
  split
  · rename_i h
    have := (List.getElem?_eq_some_iff.1 (of_decide_eq_true h)).1
    omega
  · omega
theorem pk_nx {s : List UInt8} {a : Nat} {b : UInt8} (hb : b ≠ 0) : (pk s a = b.toNat) ↔ nx s a b = true := by
  unfold pk nx
  cases h : s[bl s a]? with
  | none =>
    simp only [decide_eq_true_eq, reduceCtorEq, iff_false]
    intro e
    exact hb (UInt8.toNat_inj.1 (by simpa using e.symm))
  | some c =>
    simp only [decide_eq_true_eq, Option.some.injEq]
    exact UInt8.toNat_inj
theorem ctake_does (s : List UInt8) (a : Nat) (bad : Int) (b : UInt8) (hb0 : b ≠ 0) (ha : a ≤ s.length) (hs : s.length < 100000) (ver : Nat) :
    Does Tryz.prog G 241 [.ptr 0 ver 0 0, .int .u8 b.toNat] [some (cro ver s a bad)] fun ae O => ae = .ret (.bool (nx s a b)) ∧ O = [some (cro ver s (nxE s a b) bad)] := by
  refine Does.body tab Tryz.func241 rfl rfl ?_
  refine gos ?_
  have hb := bl_le ha
  have hp := pk_nx (s := s) (a := a) hb0
  refine DrawW.P (.take 0 (.take 2 (.take 1 (.take 3 (.take 4 (.take 5 (.take 6 (.take 7 (.take 8 (.take 9 (.take 10 (.take 11 (.take 12 (.take 13 (.take 14 (.take 15 .done)))))))))))))))) ?_
  refine gos ?_
  refine CallW.meth 0 (cpeek_does s a bad ha hs ver) rfl rfl rfl rfl rfl rfl ?_
  refine gos ?_
  cases hn : nx s a b with
  | false =>
    have h1 : ¬ pk s a = b.toNat := fun h => by rw [hp.1 h] at hn; cases hn
    refine CmpW.t (by simp; omega) ?_
    refine gos ?_
    refine RetW.plain (by simp) ?_
    simp only [nxE, hn, Bool.false_eq_true, if_false]
    (first | exact ⟨rfl, rfl⟩ | exact ⟨trivial, rfl⟩ | exact ⟨rfl, trivial⟩ | rfl | trivial | done)
  | true =>
    have h1 : pk s a = b.toNat := hp.2 hn
    have hlt : bl s a < s.length := (List.getElem?_eq_some_iff.1 (of_decide_eq_true hn)).1
    refine CmpW.f (by simp; omega) ?_
    refine gos ?_
    refine CmpW.f (by simp; omega) ?_
    refine gos ?_
    refine RetW.plain (by simp) ?_
    simp only [nxE, hn, if_true]
    (first | exact ⟨rfl, rfl⟩ | exact ⟨trivial, rfl⟩ | exact ⟨rfl, trivial⟩ | rfl | trivial | done)
end Go.Proofs.YtpbjjhpihhnomaaGreatDoor
