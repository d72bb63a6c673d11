/- Compact patterns. -/
import Derived.Test.YtjjppmbojcgdgaaGreatDoorJ13
import Derived.Test.YtjjppmbojcgdgaaGreatDoorJ12
set_option linter.unusedVariables false
set_option linter.unusedSimpArgs false
set_option maxRecDepth 100000
set_option maxHeartbeats 4000000

namespace Go.Proofs.YtjjppmbojcgdgaaGreatDoor
open Go Go.Abs
attribute [local irreducible] DrawW CallW RetW AC Does CmpW
set_option maxRecDepth 100000
def parE (s : List UInt8) : Except (Int × Int) PatV :=
  if 100 < s.length then .error (2, 0) else if 0 ≤ wroF s then .error (1, wroF s) else match patF s with
    | .ok v => .ok v
    | .error b => .error (1, (b : Int))
theorem parF_eq (s : List UInt8) : parF s = match parE s with
    | .ok v => (encV v, 0, 0)
    | .error x => (noPat, x.1, x.2) := by
  unfold parF parE
  split
  · rfl
  split
  · rfl
  cases patF s <;> rfl
theorem parE_bad {s : List UInt8} {c a : Int} (h : parE s = .error (c, a)) : c = 1 ∨ c = 2 := by
  unfold parE at h
  split at h
  · simp at h; exact .inr h.1.symm
  split at h
  · simp at h; exact .inl h.1.symm
  split at h
  · cases h
  · simp at h; exact .inl h.1.symm
def cpaE (s : List UInt8) : Except (Int × Int) PatV := match parE s with
  | .error x => .error x
  | .ok v => if 0 < v.N.hash ∨ 0 < v.N.mxf ∨ 0 < v.N.g ∨ 15 < v.N.mi then .error (3, 0) else .ok v
def noopF (v : PatV) : Bool := decide (v.N.mi = 1) && decide (v.pre = [] ∧ v.suf = []) && !v.two
def encC (v : PatV) : AV := .agg (.int .i64 v.N.mi :: .bool (noopF v) :: patCells (affV v) v.two v.N)
def noCpa : AV := .agg (.int .i64 0 :: .bool false :: patCells ⟨.nils, .nils, .nils, .nils⟩ false Num.zero)
def cpaV (r : Except (Int × Int) PatV) : AV := match r with
  | .ok v => .tuple [encC v, .int .i64 0, .int .i64 0]
  | .error x => .tuple [noCpa, .int .i64 x.1, .int .i64 x.2]
theorem empty_yes {G : Globs} {ps qs : List Piece} (h : ps = [] ∧ qs = []) : Does Tryz.prog G 196 [.agg [encL ps, encL qs]] [] fun ae _ => ae = .ret (.bool true) :=
  (empty_does (.made ps) (.made qs)).mono fun ae O e => by rw [e]; simp [h]
theorem empty_no {G : Globs} {ps qs : List Piece} (h : ¬ (ps = [] ∧ qs = [])) : Does Tryz.prog G 196 [.agg [encL ps, encL qs]] [] fun ae _ => ae = .ret (.bool false) :=
  (empty_does (.made ps) (.made qs)).mono fun ae O e => by rw [e]; simp [h]
def tail19 (p : Plan) : Plan := .take 9 (.take 10 (.take 11 (.take 12 (.take 13 (.take 14 p)))))
def end19 : Plan := .take 16 (.take 17 (.take 18 (.take 19 .done)))
def planC : Plan := .take 0 (.take 2 (.take 3 (.take 4 (.take 5 (.take 6 (.take 7 (.fork
  (.cons 1 (.fork (.cons 8 (tail19 (.take 15 end19)) (.cons 15 (.take 8 (tail19 end19)) .nil)))
  (.cons 8 (tail19 (.take 1 (.take 15 end19)))
  (.cons 15 (.fork (.cons 1 (.take 8 (tail19 end19)) (.cons 8 (tail19 (.take 1 end19)) .nil))) .nil)))))))))) 
set_option maxHeartbeats 4000000 in
theorem CParse_does {m : Int} (s : List UInt8) (hs : s.length < 100000) : Does Tryz.prog (GL m) 120 [.str s] [] fun ae _ => ae = .ret (cpaV (cpaE s)) := by
  have hP := Parse_does (m := m) s hs
  rw [parF_eq] at hP
  refine Does.body tab Tryz.func120 rfl rfl ?_
  refine gos ?_
  intro v0
  refine gos ?_
  cases hE : parE s with
  | error x =>
    obtain ⟨c, a⟩ := x
    rw [hE] at hP
    dsimp only at hP
    have hc : cpaE s = .error (c, a) := by simp [cpaE, hE]
    have hc0 := parE_bad hE
    refine CallW.pure hP rfl rfl ?_
    refine gos ?_
    intro v1
    refine gos ?_
    refine CmpW.t (by simp; omega) ?_
    refine gos ?_
    refine RetW.plain (by simp) ?_
    rw [hc]
    rfl
  | ok v =>
    rw [hE] at hP
    dsimp only at hP
    obtain ⟨p, q, p', q', two, N⟩ := v
    have hcl : closed (parV (encV ⟨p, q, p', q', two, N⟩, 0, 0)) = true := by cases two <;> rfl
    refine CallW.pure hP rfl hcl ?_
    refine gos ?_
    intro v1
    cases two
    all_goals
      refine gos ?_
      by_cases h1 : 0 < N.hash
      · have hc : cpaE s = .error (3, 0) := by simp only [cpaE, hE]; rw [if_pos (.inl h1)]
        refine CmpW.t (by simpa using h1) ?_
        refine gos ?_
        refine RetW.plain (by simp) ?_
        rw [hc]
        rfl
      refine CmpW.f (by simpa using h1) ?_
      refine gos ?_
      by_cases h2 : 0 < N.mxf
      · have hc : cpaE s = .error (3, 0) := by simp only [cpaE, hE]; rw [if_pos (.inr (.inl h2))]
        refine CmpW.t (by simpa using h2) ?_
        refine gos ?_
        refine RetW.plain (by simp) ?_
        rw [hc]
        rfl
      refine CmpW.f (by simpa using h2) ?_
      refine gos ?_
      by_cases h3 : 0 < N.g
      · have hc : cpaE s = .error (3, 0) := by simp only [cpaE, hE]; rw [if_pos (.inr (.inr (.inl h3)))]
        refine CmpW.t (by simpa using h3) ?_
        refine gos ?_
        refine RetW.plain (by simp) ?_
        rw [hc]
        rfl
      refine CmpW.f (by simpa using h3) ?_
      refine gos ?_
      by_cases h4 : 15 < N.mi
      · have hc : cpaE s = .error (3, 0) := by simp only [cpaE, hE]; rw [if_pos (.inr (.inr (.inr h4)))]
        refine CmpW.t (by simp; omega) ?_
        refine gos ?_
        refine RetW.plain (by simp) ?_
        rw [hc]
        rfl
      refine CmpW.f (by simp; omega) ?_
      refine gos ?_
      have hc : ∀ two, parE s = .ok ⟨p, q, p', q', two, N⟩ → cpaE s = .ok ⟨p, q, p', q', two, N⟩ := fun two h => by
        simp only [cpaE, h]
        rw [if_neg (by simp only [not_or]; exact ⟨h1, h2, h3, h4⟩)]
      have hc := hc _ hE
      refine DrawW.plan planC (by kernel_rfl) (by kernel_rfl) ?_
      refine gos ?_
      by_cases h5 : N.mi = 1
      · refine CmpW.t (by simp; omega) ?_
        refine gos ?_
        by_cases h6 : p = [] ∧ q = []
        · have hnoop : ∀ two, noopF ⟨p, q, p', q', two, N⟩ = !two := fun two => by cases two <;> simp [noopF, h5, h6]
          refine And.intro ?_ (And.intro ?_ (And.intro ?_ trivial))
          · refine gos ?_
            refine And.intro ?_ (And.intro ?_ trivial)
            all_goals
              refine gos ?_
              refine CallW.pure (empty_yes h6) rfl rfl ?_
              refine gos ?_
              refine RetW.plain (by simp) ?_
              rw [hc]
              simp only [cpaV, encC, hnoop]
              rfl
          · refine gos ?_
            refine CallW.pure (empty_yes h6) rfl rfl ?_
            refine gos ?_
            refine RetW.plain (by simp) ?_
            rw [hc]
            simp only [cpaV, encC, hnoop]
            rfl
          · refine gos ?_
            refine And.intro ?_ (And.intro ?_ trivial)
            all_goals
              refine gos ?_
              refine CallW.pure (empty_yes h6) rfl rfl ?_
              refine gos ?_
              refine RetW.plain (by simp) ?_
              rw [hc]
              simp only [cpaV, encC, hnoop]
              rfl
        · have hnoop : ∀ two, noopF ⟨p, q, p', q', two, N⟩ = false := fun two => by simp [noopF, h6]
          refine And.intro ?_ (And.intro ?_ (And.intro ?_ trivial))
          · refine gos ?_
            refine And.intro ?_ (And.intro ?_ trivial)
            all_goals
              refine gos ?_
              refine CallW.pure (empty_no h6) rfl rfl ?_
              refine gos ?_
              refine RetW.plain (by simp) ?_
              rw [hc]
              simp only [cpaV, encC, hnoop]
              rfl
          · refine gos ?_
            refine CallW.pure (empty_no h6) rfl rfl ?_
            refine gos ?_
            refine RetW.plain (by simp) ?_
            rw [hc]
            simp only [cpaV, encC, hnoop]
            rfl
          · refine gos ?_
            refine And.intro ?_ (And.intro ?_ trivial)
            all_goals
              refine gos ?_
              refine CallW.pure (empty_no h6) rfl rfl ?_
              refine gos ?_
              refine RetW.plain (by simp) ?_
              rw [hc]
              simp only [cpaV, encC, hnoop]
              rfl
      · have hnoop : ∀ two, noopF ⟨p, q, p', q', two, N⟩ = false := fun two => by simp [noopF, h5]
        refine CmpW.f (by simp; omega) ?_
        refine gos ?_
        refine And.intro ?_ (And.intro ?_ (And.intro ?_ trivial))
        · refine gos ?_
          refine And.intro ?_ (And.intro ?_ trivial)
          all_goals
            refine gos ?_
            refine RetW.plain (by simp) ?_
            rw [hc]
            simp only [cpaV, encC, hnoop]
            rfl
        ·
          refine gos ?_
          refine RetW.plain (by simp) ?_
          rw [hc]
          simp only [cpaV, encC, hnoop]
          rfl
        · refine gos ?_
          refine And.intro ?_ (And.intro ?_ trivial)
          all_goals
            refine gos ?_
            refine RetW.plain (by simp) ?_
            rw [hc]
            simp only [cpaV, encC, hnoop]
            rfl
end Go.Proofs.YtjjppmbojcgdgaaGreatDoor
