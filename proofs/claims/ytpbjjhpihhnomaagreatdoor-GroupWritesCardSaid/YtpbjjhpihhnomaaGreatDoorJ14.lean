/- The rules that a text is. -/
import Derived.Test.YtpbjjhpihhnomaaGreatDoorJ01
import Derived.Test.YtpbjjhpihhnomaaGreatDoorAbsC
import Derived.Test.YtpbjjhpihhnomaaGreatDoorJ12
import Derived.Test.YtpbjjhpihhnomaaGreatDoorJ06
import Derived.Test.YtpbjjhpihhnomaaGreatDoorJ13
set_option linter.unusedVariables false
set_option linter.unusedSimpArgs false
set_option maxRecDepth 100000
set_option maxHeartbeats 4000000

namespace Go.Proofs.YtpbjjhpihhnomaaGreatDoor
open Go Go.Abs
theorem block_of_cell {W : World} {b off : Nat} {v : Value} (h : W.cell? ⟨b, off, none⟩ = some v) : b < W.heap.size := by
  rcases Nat.lt_or_ge b W.heap.size with h' | h'
  · exact h'
  · simp [World.cell?, Array.getElem?_eq_none h'] at h
theorem rep_of_ints {C : Ctx} : ∀ l : List (IntKind × Int), RepFL C (l.map fun x => .int x.1 x.2) (l.map fun x => Value.int x.1 x.2)
  | [] => by simp [RepFL]
  | x :: l => by simp only [List.map_cons, RepFL]; exact ⟨_, _, rfl, by simp [RepF], rep_of_ints l⟩
def firstL : List (IntKind × Int) := (List.range 256).map fun c => (IntKind.u8, ((Lib.firstT c : Nat) : Int))
def acceptL : List (IntKind × Int) := (List.range 16).flatMap fun i => [(IntKind.u8, ((Lib.accLo i : Nat) : Int)), (IntKind.u8, ((Lib.accHi i : Nat) : Int))]
theorem first_eq : firstCells = firstL.map fun x => AV.int x.1 x.2 := by unfold firstCells firstL; rw [List.map_map]; rfl
theorem accept_eq : acceptCells = acceptL.map fun x => AV.int x.1 x.2 := by unfold acceptCells acceptL; rw [List.map_flatMap]; rfl
theorem accept_at : ∀ j < 32, acceptL[j]? = some (if j % 2 = 0 then (IntKind.u8, ((Lib.accLo (j / 2) : Nat) : Int)) else (IntKind.u8, ((Lib.accHi (j / 2) : Nat) : Int))) := by decide
theorem accept_len : acceptL.length = 32 := by decide
theorem top_GL {W : World} {m : Int} (hU : Lib.Utf8Tabs 0 1 W) (hm : W.cell? ⟨2, 0, none⟩ = some (.int .i64 m)) : Abs.Good (GL m) (Ctx.top W) := by
  refine top_good fun p hp => ?_
  simp only [GL, List.mem_cons, List.mem_nil_iff, or_false] at hp
  obtain ⟨h1, h2⟩ := hU
  rcases hp with rfl | rfl | rfl
  · refine ⟨firstL.map fun x => Value.int x.1 x.2, block_of_cell (h1 0 (by decide)), fun j u hu => ?_, by rw [first_eq]; exact rep_of_ints _⟩
    have hj : j < 256 := by have := (List.getElem?_eq_some_iff.1 hu).1; simpa [firstL] using this
    have := h1 j hj
    rw [Nat.zero_add, this, ← hu]
    simp [firstL, hj]
  · refine ⟨acceptL.map fun x => Value.int x.1 x.2, block_of_cell (h2 0 (by decide)).1, fun j u hu => ?_, by rw [accept_eq]; exact rep_of_ints _⟩
    have hj : j < 32 := by have := (List.getElem?_eq_some_iff.1 hu).1; simpa [accept_len] using this
    have hk := h2 (j / 2) (by omega)
    rw [List.getElem?_map, accept_at j hj] at hu
    rw [Nat.zero_add, ← hu]
    by_cases hpar : j % 2 = 0
    · rw [if_pos hpar]
      have e : 2 * (j / 2) = j := by omega
      have := hk.1
      rw [e] at this
      exact this
    · rw [if_neg hpar]
      have e : 2 * (j / 2) + 1 = j := by omega
      have := hk.2
      rw [e] at this
      exact this
  · exact ⟨[.int .i64 m], block_of_cell hm, fun j u hu => by
      cases j with
      | zero => simp at hu; rw [← hu]; exact hm
      | succ j => simp at hu, by simp [RepFL, RepF]⟩
end Go.Proofs.YtpbjjhpihhnomaaGreatDoor

namespace Go.Proofs.YtpbjjhpihhnomaaGreatDoor
open Go Go.Abs
def wroF (s : List UInt8) : Int := wroL ⟨⟨s⟩⟩ s.length 0
theorem wrong_does (m : Int) (s : List UInt8) (hs : s.length < 4294967296) : Does Tryz.prog (GL m) 193 [.str s] [] fun ae _ => ae = .ret (.int .i64 (wroF s)) :=
  Does.of_calls (v := .int .i64 (wroF s)) Tryz.func193 rfl rfl (fun C => by simp [RepF]) fun C cargs hg hr => by
    rw [rep_str1 hr]
    obtain ⟨_, h1, _⟩ := hg.glob (0, firstCells) (by simp [GL])
    obtain ⟨_, h2, _⟩ := hg.glob (1, acceptCells) (by simp [GL])
    exact wrong_walk ⟨⟨s⟩⟩ C.w hs (tabs hg) h1.1 h2.1
section
attribute [local irreducible] DrawW CallW RetW AC Does CmpW BD CloW
set_option maxRecDepth 100000
def noPat : AV := .agg (patCells ⟨.nils, .nils, .nils, .nils⟩ false Num.zero)
def parF (s : List UInt8) : AV × Int × Int :=
  if 100 < s.length then (noPat, 2, 0) else if 0 ≤ wroF s then (noPat, 1, wroF s) else match patF s with
    | .ok v => (encV v, 0, 0)
    | .error b => (noPat, 1, b)
def parV (r : AV × Int × Int) : AV := .tuple [r.1, .int .i64 r.2.1, .int .i64 r.2.2]
theorem Parse_does {m : Int} (s : List UInt8) (hs : s.length < 100000) : Does Tryz.prog (GL m) 132 [.str s] [] fun ae _ => ae = .ret (parV (parF s)) := by
  refine Does.ofBD Tryz.func132 rfl rfl ?_
  refine BD.seq tab ?_
  refine gos ?_
  intro v0
  refine gos ?_
  intro v1
  refine gos ?_
  intro v2
  refine gos ?_
  refine BD.seq tab ?_
  refine gos ?_
  by_cases h1 : 100 < s.length
  · refine CmpW.t (by simp; omega) ?_
    refine gos ?_
    refine RetW.plain (by simp) ?_
    simp only [parF, if_pos h1]
    rfl
  · refine CmpW.f (by simp; omega) ?_
    refine gos ?_
    refine BD.seq tab ?_
    refine gos ?_
    refine CallW.pure (wrong_does m s (by omega)) rfl rfl ?_
    refine gos ?_
    by_cases h2 : 0 ≤ wroF s
    · refine CmpW.t (by simpa using h2) ?_
      refine gos ?_
      refine RetW.plain (by simp) ?_
      simp only [parF, if_neg h1, if_pos h2]
      rfl
    · refine CmpW.f (by simpa using h2) ?_
      refine gos ?_
      refine BD.defer tab (d := 16) Tryz.func194 rfl rfl rfl rfl rfl rfl rfl rfl (by simp) ?_
      refine gos ?_
      intro v3
      refine gos ?_
      refine CallW.ofN [3] (as' := [.ptr 0 v3 0 0]) (pattern_does s v3 hs) ?_ rfl rfl ?_
      · exact hands_closed (O := [rdr v3 s 0]) (by simp) rfl (fun k j hk => by
          match k, hk with
          | 0, hk => have : 3 = j := by simpa using hk
                     subst this; rfl
          | k + 1, hk => simp at hk) (by simp [rdr, closedLL, closedL, closed])
      intro ae O hA hl
      obtain ⟨o, rfl⟩ : ∃ o, O = [o] := by
        match O, hl with
        | [o], _ => exact ⟨o, rfl⟩
      have hp : parF s = match patF s with
        | .ok v => (encV v, 0, 0)
        | .error b => (noPat, 1, (b : Int)) := by simp only [parF, if_neg h1, if_neg h2]
      cases hE : patF s with
      | error b =>
        rw [hE] at hA hp
        subst hA
        simp only [putR, ren, renL]
        refine CloW.of tab Tryz.func194 rfl rfl rfl (fun _ => rfl) rfl rfl rfl ?_
        refine gos ?_
        intro v4
        refine gos ?_
        refine DrawW.plan (.take 0 (.take 1 (.fork (.cons 2 (.take 3 (.take 4 (.take 5 .done))) (.cons 3 (.fork (.cons 2 (.take 4 (.take 5 .done)) (.cons 4 (.take 2 (.take 5 .done)) .nil))) .nil))))) (by kernel_rfl) (by kernel_rfl) ?_
        refine gos ?_
        refine And.intro ?_ (And.intro ?_ trivial)
        · refine gos ?_
          refine RetW.plain (by simp) ?_
          rw [hp]
          rfl
        · refine gos ?_
          refine And.intro ?_ (And.intro ?_ trivial)
          all_goals
            refine gos ?_
            refine RetW.plain (by simp) ?_
            rw [hp]
            rfl
      | ok v =>
        rw [hE] at hA hp
        subst hA
        obtain ⟨p, q, p', q', two, N⟩ := v
        cases two
        all_goals
          simp only [putR]
          refine gos ?_
          refine CloW.of tab Tryz.func194 rfl rfl rfl (fun _ => rfl) rfl rfl rfl ?_
          refine gos ?_
          intro v4
          refine gos ?_
          refine RetW.plain (by simp) ?_
          rw [hp]
          rfl
end
end Go.Proofs.YtpbjjhpihhnomaaGreatDoor

namespace Go.Proofs.YtpbjjhpihhnomaaGreatDoor
open Go Go.Abs
attribute [local irreducible] DrawW CallW RetW AC Does CmpW
variable {G : Globs}
inductive IsL : AV → List Piece → Prop where
  | nil : IsL .nils []
  | made (ps : List Piece) : IsL (encL ps) ps
theorem len0 (qs : List Piece) : ((qs.length : Int) == 0) = decide (qs = []) := by
  cases qs with
  | nil => rfl
  | cons a l => simp; omega
theorem empty_does {a b : AV} {ps qs : List Piece} (ha : IsL a ps) (hb : IsL b qs) : Does Tryz.prog G 197 [.agg [a, b]] [] fun ae _ => ae = .ret (.bool (decide (ps = [] ∧ qs = []))) := by
  refine Does.body tab Tryz.func197 rfl rfl ?_
  cases ha <;> cases hb
  all_goals
    refine gos ?_
    intro v1
    refine gos ?_
  · refine RetW.plain (by simp) ?_
    rfl
  · refine CmpW.s ?_
    refine gos ?_
    refine RetW.plain (by simp) ?_
    simp [len0]
  · refine CmpW.split (fun hc => ?_) (fun hc => ?_)
    · refine gos ?_
      refine RetW.plain (by simp) ?_
      simpa using hc
    · refine gos ?_
      refine RetW.plain (by simp) ?_
      simpa using hc
  · refine CmpW.split (fun hc => ?_) (fun hc => ?_)
    · refine gos ?_
      refine CmpW.s ?_
      refine gos ?_
      refine RetW.plain (by simp) ?_
      have hc' : ps = [] := by simpa using hc
      simp [hc', len0]
    · refine gos ?_
      refine RetW.plain (by simp) ?_
      have hc' : ¬ ps = [] := by simpa using hc
      simp [hc']
end Go.Proofs.YtpbjjhpihhnomaaGreatDoor

namespace Go.Proofs.YtpbjjhpihhnomaaGreatDoor
open Go Go.Abs
attribute [local irreducible] DrawW CallW RetW AC Does CmpW
set_option maxRecDepth 100000
def parE (s : List UInt8) : Except (Int × Int) PatV :=
  if 100 < s.length then .error (2, 0) else if 0 ≤ wroF s then .error (1, wroF s) else match patF s with
    | .ok v => .ok v
    | .error b => .error (1, (b : Int))
theorem parF_eq (s : List UInt8) : parF s = match parE s with
    | .ok v => (encV v, 0, 0)
    | .error x => (noPat, x.1, x.2) := by
  unfold parF parE
  split
  · rfl
  split
  · rfl
  cases patF s <;> rfl
theorem parE_bad {s : List UInt8} {c a : Int} (h : parE s = .error (c, a)) : c = 1 ∨ c = 2 := by
  unfold parE at h
  split at h
  · simp at h; exact .inr h.1.symm
  split at h
  · simp at h; exact .inl h.1.symm
  split at h
  · cases h
  · simp at h; exact .inl h.1.symm
def cpaE (s : List UInt8) : Except (Int × Int) PatV := match parE s with
  | .error x => .error x
  | .ok v => if 0 < v.N.hash ∨ 0 < v.N.mxf ∨ 0 < v.N.g ∨ 15 < v.N.mi then .error (3, 0) else .ok v
def noopF (v : PatV) : Bool := decide (v.N.mi = 1) && decide (v.pre = [] ∧ v.suf = []) && !v.two
def encC (v : PatV) : AV := .agg (.int .i64 v.N.mi :: .bool (noopF v) :: patCells (affV v) v.two v.N)
def noCpa : AV := .agg (.int .i64 0 :: .bool false :: patCells ⟨.nils, .nils, .nils, .nils⟩ false Num.zero)
def cpaV (r : Except (Int × Int) PatV) : AV := match r with
  | .ok v => .tuple [encC v, .int .i64 0, .int .i64 0]
  | .error x => .tuple [noCpa, .int .i64 x.1, .int .i64 x.2]
theorem empty_yes {G : Globs} {ps qs : List Piece} (h : ps = [] ∧ qs = []) : Does Tryz.prog G 197 [.agg [encL ps, encL qs]] [] fun ae _ => ae = .ret (.bool true) :=
  (empty_does (.made ps) (.made qs)).mono fun ae O e => by rw [e]; simp [h]
theorem empty_no {G : Globs} {ps qs : List Piece} (h : ¬ (ps = [] ∧ qs = [])) : Does Tryz.prog G 197 [.agg [encL ps, encL qs]] [] fun ae _ => ae = .ret (.bool false) :=
  (empty_does (.made ps) (.made qs)).mono fun ae O e => by rw [e]; simp [h]
def tail19 (p : Plan) : Plan := .take 9 (.take 10 (.take 11 (.take 12 (.take 13 (.take 14 p)))))
def end19 : Plan := .take 16 (.take 17 (.take 18 (.take 19 .done)))
def planC : Plan := .take 0 (.take 2 (.take 3 (.take 4 (.take 5 (.take 6 (.take 7 (.fork
  (.cons 1 (.fork (.cons 8 (tail19 (.take 15 end19)) (.cons 15 (.take 8 (tail19 end19)) .nil)))
  (.cons 8 (tail19 (.take 1 (.take 15 end19)))
  (.cons 15 (.fork (.cons 1 (.take 8 (tail19 end19)) (.cons 8 (tail19 (.take 1 end19)) .nil))) .nil)))))))))) 
set_option maxHeartbeats 4000000 in
theorem CParse_does {m : Int} (s : List UInt8) (hs : s.length < 100000) : Does Tryz.prog (GL m) 135 [.str s] [] fun ae _ => ae = .ret (cpaV (cpaE s)) := by
  have hP := Parse_does (m := m) s hs
  rw [parF_eq] at hP
  refine Does.body tab Tryz.func135 rfl rfl ?_
  refine gos ?_
  intro v0
  refine gos ?_
  cases hE : parE s with
  | error x =>
    obtain ⟨c, a⟩ := x
    rw [hE] at hP
    dsimp only at hP
    have hc : cpaE s = .error (c, a) := by simp [cpaE, hE]
    have hc0 := parE_bad hE
    refine CallW.pure hP rfl rfl ?_
    refine gos ?_
    intro v1
    refine gos ?_
    refine CmpW.t (by simp; omega) ?_
    refine gos ?_
    refine RetW.plain (by simp) ?_
    rw [hc]
    rfl
  | ok v =>
    rw [hE] at hP
    dsimp only at hP
    obtain ⟨p, q, p', q', two, N⟩ := v
    have hcl : closed (parV (encV ⟨p, q, p', q', two, N⟩, 0, 0)) = true := by cases two <;> rfl
    refine CallW.pure hP rfl hcl ?_
    refine gos ?_
    intro v1
    cases two
    all_goals
      refine gos ?_
      by_cases h1 : 0 < N.hash
      · have hc : cpaE s = .error (3, 0) := by simp only [cpaE, hE]; rw [if_pos (.inl h1)]
        refine CmpW.t (by simpa using h1) ?_
        refine gos ?_
        refine RetW.plain (by simp) ?_
        rw [hc]
        rfl
      refine CmpW.f (by simpa using h1) ?_
      refine gos ?_
      by_cases h2 : 0 < N.mxf
      · have hc : cpaE s = .error (3, 0) := by simp only [cpaE, hE]; rw [if_pos (.inr (.inl h2))]
        refine CmpW.t (by simpa using h2) ?_
        refine gos ?_
        refine RetW.plain (by simp) ?_
        rw [hc]
        rfl
      refine CmpW.f (by simpa using h2) ?_
      refine gos ?_
      by_cases h3 : 0 < N.g
      · have hc : cpaE s = .error (3, 0) := by simp only [cpaE, hE]; rw [if_pos (.inr (.inr (.inl h3)))]
        refine CmpW.t (by simpa using h3) ?_
        refine gos ?_
        refine RetW.plain (by simp) ?_
        rw [hc]
        rfl
      refine CmpW.f (by simpa using h3) ?_
      refine gos ?_
      by_cases h4 : 15 < N.mi
      · have hc : cpaE s = .error (3, 0) := by simp only [cpaE, hE]; rw [if_pos (.inr (.inr (.inr h4)))]
        refine CmpW.t (by simp; omega) ?_
        refine gos ?_
        refine RetW.plain (by simp) ?_
        rw [hc]
        rfl
      refine CmpW.f (by simp; omega) ?_
      refine gos ?_
      have hc : ∀ two, parE s = .ok ⟨p, q, p', q', two, N⟩ → cpaE s = .ok ⟨p, q, p', q', two, N⟩ := fun two h => by
        simp only [cpaE, h]
        rw [if_neg (by simp only [not_or]; exact ⟨h1, h2, h3, h4⟩)]
      have hc := hc _ hE
      refine DrawW.plan planC (by kernel_rfl) (by kernel_rfl) ?_
      refine gos ?_
      by_cases h5 : N.mi = 1
      · refine CmpW.t (by simp; omega) ?_
        refine gos ?_
        by_cases h6 : p = [] ∧ q = []
        · have hnoop : ∀ two, noopF ⟨p, q, p', q', two, N⟩ = !two := fun two => by cases two <;> simp [noopF, h5, h6]
          refine And.intro ?_ (And.intro ?_ (And.intro ?_ trivial))
          · refine gos ?_
            refine And.intro ?_ (And.intro ?_ trivial)
            all_goals
              refine gos ?_
              refine CallW.pure (empty_yes h6) rfl rfl ?_
              refine gos ?_
              refine RetW.plain (by simp) ?_
              rw [hc]
              simp only [cpaV, encC, hnoop]
              rfl
          · refine gos ?_
            refine CallW.pure (empty_yes h6) rfl rfl ?_
            refine gos ?_
            refine RetW.plain (by simp) ?_
            rw [hc]
            simp only [cpaV, encC, hnoop]
            rfl
          · refine gos ?_
            refine And.intro ?_ (And.intro ?_ trivial)
            all_goals
              refine gos ?_
              refine CallW.pure (empty_yes h6) rfl rfl ?_
              refine gos ?_
              refine RetW.plain (by simp) ?_
              rw [hc]
              simp only [cpaV, encC, hnoop]
              rfl
        · have hnoop : ∀ two, noopF ⟨p, q, p', q', two, N⟩ = false := fun two => by simp [noopF, h6]
          refine And.intro ?_ (And.intro ?_ (And.intro ?_ trivial))
          · refine gos ?_
            refine And.intro ?_ (And.intro ?_ trivial)
            all_goals
              refine gos ?_
              refine CallW.pure (empty_no h6) rfl rfl ?_
              refine gos ?_
              refine RetW.plain (by simp) ?_
              rw [hc]
              simp only [cpaV, encC, hnoop]
              rfl
          · refine gos ?_
            refine CallW.pure (empty_no h6) rfl rfl ?_
            refine gos ?_
            refine RetW.plain (by simp) ?_
            rw [hc]
            simp only [cpaV, encC, hnoop]
            rfl
          · refine gos ?_
            refine And.intro ?_ (And.intro ?_ trivial)
            all_goals
              refine gos ?_
              refine CallW.pure (empty_no h6) rfl rfl ?_
              refine gos ?_
              refine RetW.plain (by simp) ?_
              rw [hc]
              simp only [cpaV, encC, hnoop]
              rfl
      · have hnoop : ∀ two, noopF ⟨p, q, p', q', two, N⟩ = false := fun two => by simp [noopF, h5]
        refine CmpW.f (by simp; omega) ?_
        refine gos ?_
        refine And.intro ?_ (And.intro ?_ (And.intro ?_ trivial))
        · refine gos ?_
          refine And.intro ?_ (And.intro ?_ trivial)
          all_goals
            refine gos ?_
            refine RetW.plain (by simp) ?_
            rw [hc]
            simp only [cpaV, encC, hnoop]
            rfl
        ·
          refine gos ?_
          refine RetW.plain (by simp) ?_
          rw [hc]
          simp only [cpaV, encC, hnoop]
          rfl
        · refine gos ?_
          refine And.intro ?_ (And.intro ?_ trivial)
          all_goals
            refine gos ?_
            refine RetW.plain (by simp) ?_
            rw [hc]
            simp only [cpaV, encC, hnoop]
            rfl
end Go.Proofs.YtpbjjhpihhnomaaGreatDoor

namespace Go.Proofs.YtpbjjhpihhnomaaGreatDoor
open Go Go.Abs
attribute [local irreducible] DrawW CallW RetW AC Does CmpW
variable {G : Globs}
theorem iParseInt_does (l : List UInt8) (h0 : l ≠ []) (hl : l.length ≤ 6) (hx : ∀ c ∈ l, isHex c = true) : Does Tryz.prog G 308 [.str l, .int .i64 16, .int .i64 32] [] fun ae _ => ae = .ret (.tuple [.int .i64 (hexV l), .nili]) := by
  obtain ⟨c, hc⟩ : ∃ c, l[0]? = some c := ⟨_, List.getElem?_eq_getElem (List.length_pos_iff.2 h0)⟩
  have hch := hx c (List.mem_of_getElem? hc)
  have hcc := isHex_cases hch
  have hv : hexV l < 16777216 := by
    have h1 := hexV_lt l.length l rfl hx
    have h2 : 16 ^ l.length ≤ 16 ^ 6 := Nat.pow_le_pow_right (by omega) hl
    omega
  refine Does.bodyA tab Tryz.func308 rfl rfl ?_
  refine AC.step tab ?_
  refine gos ?_
  refine AC.step tab ?_
  refine gos ?_
  refine CmpW.f (by simpa using h0) ?_
  refine gos ?_
  refine AC.step tab ?_
  refine gos ?_
  refine AC.step tab ?_
  refine gos ?_
  refine And.intro (by decide) ⟨c, hc, ?_⟩
  refine gos ?_
  refine CmpW.f (by simp; omega) ?_
  refine gos ?_
  refine CmpW.f (by simp; omega) ?_
  refine gos ?_
  refine AC.step tab ?_
  refine gos ?_
  refine AC.step tab ?_
  refine gos ?_
  refine CallW.pure (iParseUint_does l h0 hl hx) rfl rfl ?_
  refine gos ?_
  refine AC.step tab ?_
  refine gos ?_
  refine AC.step tab ?_
  refine gos ?_
  refine AC.step tab ?_
  refine gos ?_
  refine And.intro ?_ ?_
  · decide
  refine gos ?_
  refine AC.step tab ?_
  refine gos ?_
  have hC : IntKind.u64.wrap (1 * 2 ^ min (IntKind.u64.wrap (32 - 1)).toNat IntKind.u64.bits) = 2147483648 := by decide
  rw [hC]
  refine CmpW.N ?_
  refine gos ?_
  refine AC.step tab ?_
  refine gos ?_
  refine AC.step tab ?_
  refine gos ?_
  have hW : IntKind.i64.wrap (hexV l : Int) = (hexV l : Int) := wrap_i64 (by omega) (by omega)
  refine AC.step tab ?_
  refine gos ?_
  refine AC.go tab ?_
  refine gos ?_
  refine RetW.plain (by simp) ?_
  first | rfl | (rw [hW])
theorem ParseInt_does (l : List UInt8) (h0 : l ≠ []) (hl : l.length ≤ 6) (hx : ∀ c ∈ l, isHex c = true) : Does Tryz.prog G 292 [.str l, .int .i64 16, .int .i64 32] [] fun ae _ => ae = .ret (.tuple [.int .i64 (hexV l), .nili]) := by
  refine Does.body tab Tryz.func292 rfl rfl ?_
  refine gos ?_
  refine CallW.pure (iParseInt_does l h0 hl hx) rfl rfl ?_
  refine gos ?_
  refine RetW.plain (by simp) ?_
  rfl
end Go.Proofs.YtpbjjhpihhnomaaGreatDoor

namespace Go.Proofs.YtpbjjhpihhnomaaGreatDoor
open Go Go.Abs
section
attribute [local irreducible] DrawW CallW RetW AC Does CmpW
theorem encRuls_closed : ∀ rs : List Rul, closedLL (rs.map encRul) = true
  | [] => rfl
  | r :: rs => by simp [closedLL, encRul, closedL, closed]; exact encRuls_closed rs
def rusL (s : List UInt8) : Nat → Nat → Nat → Fnd → List Rul → Except (Int × Nat) (List Rul × Nat × Nat × Fnd)
  | 0, a, n, F, xs => .ok (xs, a, n, F)
  | f + 1, a, n, F, xs =>
    if pk s a = 0 then .ok (xs, bl s a, n, F)
    else match rulF s (bl s a) n F with
      | .error r => .error r
      | .ok (x, b, n', F') => if pre s (bl s b) [59] then rusL s f (bl s b + 1) n' F' (xs ++ [x]) else .ok (xs ++ [x], bl s b, n', F')
def rus0 (s : List UInt8) : Except (Int × Nat) (List Rul × Nat × Nat × Fnd) := rusL s (s.length + 1) 0 0 ⟨false, false, false, false, false, false⟩ []
def rusF (s : List UInt8) : Except (Int × Nat) (List Rul) := match rus0 s with
  | .error r => .error r
  | .ok (xs, b, _, _) => if pk s b ≠ 0 ∨ bl s b < s.length then .error (1, bl s b) else .ok xs
theorem rules_does (m : Int) (s : List UInt8) (hs : s.length < 100000) (ver : Nat) :
    Does Tryz.prog (GL m) 131 [.ptr 0 ver 0 0] [some (rro ver s 0 0 ⟨false, false, false, false, false, false⟩)] fun ae O => match rusF s with
      | .error r => ae = .panic (rfault r)
      | .ok xs => ae = .ret (.fsl (xs.map encRul)) ∧ ∃ o, O = [some o] := by
  refine Does.bodyA tab Tryz.func131 rfl rfl ?_
  refine AC.step tab ?_
  refine gos ?_
  refine AC.step tab ?_
  refine gos ?_
  refine AC.own 3 235 3 rfl (by omega) fun v1 => ?_
  refine AC.cutF tab (fun e h => ∃ (xs : List Rul) (b n vw : Nat) (F : Fnd), rus0 s = .ok (xs, b, n, F) ∧ b ≤ s.length ∧ e = [.ptr 0 ver 0 0, .any, .any, .sl 1 vw] ++ List.replicate 32 .any ∧
    h = [some (rro ver s b n F), some ⟨vw, 235, 3, xs.map encRul⟩]) ?_ ?_
  · refine AC.loopC tab (fun f e h => ∃ (xs : List Rul) (b n vw : Nat) (F : Fnd), s.length < f + b ∧ b ≤ s.length ∧ n ≤ 200 ∧ xs.length ≤ b ∧ rus0 s = rusL s f b n F xs ∧
      e = [.ptr 0 ver 0 0, .any, .any, .sl 1 vw] ++ List.replicate 32 .any ∧ h = [some (rro ver s b n F), some ⟨vw, 235, 3, xs.map encRul⟩]) (s.length + 1) ⟨_, fgts, [], 0, 0, v1, _, by omega, by omega, by omega, by simp, rfl, rfl, rfl⟩ ?_
    rintro f e h ⟨xs, b, n, vw, F, hf, hb, hn, hxl, hal, rfl, rfl⟩
    obtain ⟨f, rfl⟩ : ∃ q, f = q + 1 := ⟨f - 1, by omega⟩
    have hq1 := bl_le hb
    refine gos ?_
    refine CallW.meth 0 (peek_does s b n F hb hs ver) rfl rfl rfl rfl rfl rfl ?_
    refine gos ?_
    by_cases hp : pk s b = 0
    · simp only [rusL, hp, if_true] at hal
      refine CmpW.f (by simpa using hp) ?_
      refine gos ?_
      exact ⟨_, 2, fgts, xs, bl s b, n, vw, F, hal, hq1.2, rfl, rfl⟩
    · refine CmpW.t (by simp; omega) ?_
      simp only [rusL, if_neg hp] at hal
      refine gos ?_
      have r1 := rule_does m s (bl s b) n F hq1.2 hs hn ver
      cases hR : rulF s (bl s b) n F with
      | error r =>
        rw [hR] at r1 hal
        simp only at r1 hal
        refine CallW.pan1 0 r1 rfl rfl rfl rfl rfl (fun s' hl => ?_)
        refine gos ?_
        exact ⟨by rw [hl]; simp, by simp only [rusF, hal]⟩
      | ok q =>
        obtain ⟨x, c, n', F'⟩ := q
        rw [hR] at r1 hal
        simp only at r1 hal
        have h1 := rulF_le hq1.2 hn hR
        have q2 := bl_le h1.2.1
        refine CallW.meth 0 r1 rfl rfl rfl rfl rfl rfl ?_
        (repeat (first | refine gof ?_ | refine fun (vv : Nat) => ?_))
        cases hz : pre s (bl s c) [59] with
        | true =>
          have hle3 := pre_le hz (by simp)
          simp only [List.length_cons, List.length_nil] at hle3
          simp only [hz, if_true] at hal
          refine CallW.meth 0 (take_t (bl s c + 1) hz rfl n' F' h1.2.1 hs ver) rfl rfl rfl rfl rfl rfl ?_
          (repeat (first | refine gof ?_ | refine fun (vv : Nat) => ?_))
          refine ⟨f, _, 2, by omega, fgts, xs ++ [x], bl s c + 1, n', vv, F', by omega, by omega, h1.2.2, by simp; omega, hal, rfl, ?_⟩
          rw [List.map_append]; rfl
        | false =>
          simp only [hz, Bool.false_eq_true, if_false] at hal
          refine CallW.meth 0 (take_f hz n' F' h1.2.1 hs ver) rfl rfl rfl rfl rfl rfl ?_
          (repeat (first | refine gof ?_ | refine fun (vv : Nat) => ?_))
          refine ⟨_, 2, fgts, xs ++ [x], bl s c, n', vv, F', hal, q2.2, rfl, ?_⟩
          rw [List.map_append]; rfl
  rintro e h ⟨xs, b, n, vw, F, hal, hb, rfl, rfl⟩
  have hq1 := bl_le hb
  refine AC.step tab ?_
  refine gos ?_
  refine DrawW.L ?_
  refine gos ?_
  refine CallW.meth 0 (peek_does s b n F hb hs ver) rfl rfl rfl rfl rfl rfl ?_
  refine gos ?_
  by_cases hp : pk s b = 0
  · refine CmpW.f (by simpa using hp) ?_
    refine gos ?_
    by_cases hlt : bl s b < s.length
    · refine CmpW.T ?_
      refine gos ?_
      refine CallW.of0 (rfail_does _ _) rfl ?_
      rintro ae ⟨rfl, _⟩
      refine ⟨rfl, ?_⟩
      refine gos ?_
      exact ⟨by simp, by simp only [rusF, hal]; rw [if_pos (.inr hlt)]⟩
    · refine CmpW.N ?_
      refine gos ?_
      refine AC.go tab ?_
      refine gos ?_
      refine RetW.wk (by simp) ?_ (Wk.row (k := 0) (i := 1) rfl rfl rfl (encRuls_closed xs)) ?_
      · rfl
      · simp only [rusF, hal]
        rw [if_neg (by simp [hp]; omega)]
        exact ⟨rfl, _, rfl⟩
  · refine CmpW.t (by simp; omega) ?_
    refine gos ?_
    refine CallW.of0 (rfail_does _ _) rfl ?_
    rintro ae ⟨rfl, _⟩
    refine ⟨rfl, ?_⟩
    refine gos ?_
    exact ⟨by simp, by simp only [rusF, hal]; rw [if_pos (.inl hp)]⟩
end
section
attribute [local irreducible] DrawW CallW RetW AC Does CmpW BD CloW
def rulP (s : List UInt8) : List Rul × Int × Nat :=
  if 4000 < s.length then ([], 4, 0) else match rusF s with
    | .ok xs => (xs, 0, 0)
    | .error r => ([], r.1, r.2)
def rulV (r : List Rul × Int × Nat) : AV := .tuple [.fsl (r.1.map encRul), .int .i64 r.2.1, .int .i64 r.2.2]
theorem RParse_does {m : Int} (s : List UInt8) (hs : s.length < 100000) : Does Tryz.prog (GL m) 47 [.str s] [] fun ae _ => ae = .ret (rulV (rulP s)) := by
  refine Does.ofBD Tryz.func47 rfl rfl ?_
  refine BD.seq tab ?_
  (repeat (first | refine gof ?_ | refine fun (vv : Nat) => ?_))
  refine BD.seq tab ?_
  refine gos ?_
  by_cases h1 : 4000 < s.length
  · refine CmpW.T ?_
    refine gos ?_
    refine RetW.wk (r' := rulV ([], 4, 0)) (by simp) ?_ (Wk.tuple (Wk.nil (k := 0) rfl)) ?_
    · rfl
    · simp only [rulP, if_pos h1]
  · refine CmpW.N ?_
    refine gos ?_
    refine BD.defer tab (d := 8) Tryz.func130 rfl rfl rfl rfl rfl rfl rfl rfl (by simp) ?_
    (repeat (first | refine gof ?_ | refine fun (vv : Nat) => ?_))
    refine CallW.ofN [3] (as' := [.ptr 0 vv 0 0]) (rules_does m s hs vv) ?_ rfl rfl ?_
    · exact hands_closed (O := [rro vv s 0 0 ⟨false, false, false, false, false, false⟩]) (by simp) rfl (fun k j hk => by
        match k, hk with
        | 0, hk => have : 3 = j := by simpa using hk
                   subst this; rfl
        | k + 1, hk => simp at hk) (by simp [rro, closedLL, closedL, closed])
    intro ae O hA hl
    obtain ⟨o, rfl⟩ : ∃ o, O = [o] := by
      match O, hl with
      | [o], _ => exact ⟨o, rfl⟩
    have hp : rulP s = match rusF s with
      | .ok xs => (xs, 0, 0)
      | .error r => ([], r.1, r.2) := by simp only [rulP, if_neg h1]
    cases hE : rusF s with
    | error r =>
      rw [hE] at hA hp
      subst hA
      simp only [putR, ren, renL]
      refine CloW.of tab Tryz.func130 rfl rfl rfl (fun _ => rfl) rfl rfl rfl ?_
      (repeat (first | refine gof ?_ | refine fun (vv : Nat) => ?_))
      refine DrawW.P (.take 0 (.take 2 (.fork (.cons 1 (.fork (.cons 3 (.take 4 (.take 5 (.take 6 .done))) (.cons 4 (.fork (.cons 3 (.take 5 (.take 6 .done)) (.cons 5 (.take 3 (.take 6 .done)) .nil))) .nil))) (.cons 3 (.fork (.cons 1 (.take 4 (.take 5 (.take 6 .done))) (.cons 4 (.take 1 (.take 5 (.take 6 .done))) .nil))) (.cons 4 (.take 1 (.fork (.cons 3 (.take 5 (.take 6 .done)) (.cons 5 (.take 3 (.take 6 .done)) .nil)))) .nil)))))) ?_
      (repeat' (first | exact trivial | refine gon ?_ | refine And.intro ?_ ?_))
      all_goals
        refine RetW.wk (r' := rulV ([], r.1, r.2)) (by simp) ?_ (Wk.tuple (Wk.nil (k := 0) rfl)) ?_
        · rfl
        · rw [hp]
    | ok xs =>
      rw [hE] at hA hp
      obtain ⟨rfl, _⟩ := hA
      simp only [putR]
      (repeat (first | refine gof ?_ | refine fun (vv : Nat) => ?_))
      refine CloW.of tab Tryz.func130 rfl rfl rfl (fun _ => rfl) rfl rfl rfl ?_
      (repeat (first | refine gof ?_ | refine fun (vv : Nat) => ?_))
      refine RetW.plain (by simp) ?_
      rw [hp]
      rfl
end
end Go.Proofs.YtpbjjhpihhnomaaGreatDoor
