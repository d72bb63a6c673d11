/- A table's single texts: pointers to them. -/
import Derived.Test.YtjjppmbojcgdgaaGreatDoorJ07
import Derived.Test.YtjjppmbojcgdgaaGreatDoorJ14
import Derived.Test.YtjjppmbojcgdgaaGreatDoorJ17
set_option linter.unusedVariables false
set_option linter.unusedSimpArgs false
set_option maxRecDepth 100000
set_option maxHeartbeats 4000000

namespace Go.Proofs.YtjjppmbojcgdgaaGreatDoor
open Go Go.Abs
def encS1 (s : List UInt8) : List AV := [.str s]
theorem encS1_one (l : List (List UInt8)) : ∀ y ∈ l.map encS1, y.length = 1 := fun y hy => by obtain ⟨z, _, rfl⟩ := List.mem_map.1 hy; rfl
end Go.Proofs.YtjjppmbojcgdgaaGreatDoor

namespace Go.Proofs.YtjjppmbojcgdgaaGreatDoor
open Go Go.Abs
attribute [local irreducible] DrawW CallW RetW AC Does CmpW
variable {G : Globs}
theorem more_len (out : List Piece) (t : List UInt8) : (more out t).length ≤ out.length + 1 := by
  unfold more
  split
  · split <;> simp
    try omega
  · simp
theorem affL_len (s : List UInt8) : ∀ (f a : Nat) (out : List Piece) (r : List Piece × Nat), affL s f a out = some r → r.1.length ≤ out.length + f
  | 0, _, _, _, h => by simp [affL] at h
  | f + 1, a, out, r, h => by
    unfold affL at h
    split at h
    · have := affL_len s f _ _ r h
      simp only [List.length_append, List.length_cons, List.length_nil] at this
      omega
    · split at h
      · cases h
      · split at h
        · simp at h; subst h; simp
        split at h
        · have := affL_len s f _ _ r h; omega
        · have h1 := affL_len s f _ _ r h
          have h2 := more_len out ‹_›
          omega
theorem affE_len {s : List UInt8} {a : Nat} {ps : List Piece} {b : Nat} (h : affE s a = .ok (ps, b)) : ps.length ≤ s.length + 1 := by
  unfold affE at h
  split at h
  · cases h
  · rename_i r hr
    simp at h; subst h
    have := affL_len s _ _ _ _ hr
    simp only [List.length_nil] at this
    omega
def PatV.small (v : PatV) : Prop := v.pre.length < 100000 ∧ v.suf.length < 100000 ∧ v.npre.length < 100000 ∧ v.nsuf.length < 100000
theorem patF_small {s : List UInt8} {v : PatV} (hs : s.length < 90000) (h : patF s = .ok v) : v.small := by
  unfold patF at h
  split at h
  · cases h
  rename_i p a1 h1
  have l1 := affE_len h1
  split at h
  · cases h
  split at h
  · cases h
  rename_i q a3 h3
  have l3 := affE_len h3
  split at h
  · split at h
    · cases h
    rename_i p' a5 h5
    have l5 := affE_len h5
    split at h
    · cases h
    split at h
    · cases h
    rename_i q' a7 h7
    have l7 := affE_len h7
    unfold endE at h
    split at h
    · cases h
    simp at h; subst h
    simp only [PatV.small]; omega
  · unfold endE at h
    split at h
    · cases h
    simp at h; subst h
    simp only [PatV.small, List.length_nil]; omega
theorem parE_small {s : List UInt8} {v : PatV} (h : parE s = .ok v) : v.small := by
  unfold parE at h
  split at h
  · cases h
  split at h
  · cases h
  split at h
  · simp at h; subst h
    rename_i h3
    exact patF_small (by omega) h3
  · cases h
theorem cpaE_small {s : List UInt8} {v : PatV} (h : cpaE s = .ok v) : v.small := by
  unfold cpaE at h
  split at h
  · cases h
  rename_i w hw
  split at h
  · cases h
  simp at h; subst h
  exact parE_small hw
def sidesF (v : PatV) (neg : Bool) : List Piece × List Piece := if neg then (if v.two then (v.npre, v.nsuf) else (⟨1, [], 0⟩ :: v.pre, v.suf)) else (v.pre, v.suf)
def encS (x : List Piece × List Piece) : AV := .agg [encL x.1, encL x.2]
theorem encP_three (ps : List Piece) : ∀ y ∈ ps.map encP, y.length = 3 := fun y hy => by
  obtain ⟨z, _, rfl⟩ := List.mem_map.1 hy; rfl
theorem encP_get {ps : List Piece} {i : Nat} {x : Piece} (h : ps[i]? = some x) : (ps.map encP)[i]? = some (encP x) := by simp [h]
theorem encP_ones (ps : List Piece) : ∀ y ∈ ps.map encP, ones y = true := fun y hy => by
  obtain ⟨z, _, rfl⟩ := List.mem_map.1 hy; rfl
theorem Sides_does (v : PatV) (hv : v.small) (neg : Bool) : Does Tryz.prog G 25 [encV v, .bool neg] [] fun ae _ => ae = .ret (encS (sidesF v neg)) := by
  obtain ⟨p, q, p', q', two, N⟩ := v
  obtain ⟨h1, h2, h3, h4⟩ := hv
  simp only at h1 h2 h3 h4
  refine Does.bodyA tab Tryz.func25 rfl rfl ?_
  cases two
  all_goals
    refine AC.step tab ?_
    refine gos ?_
    intro v1
    refine gos ?_
    intro v2
    refine gos ?_
    refine AC.wk (Wk.ptr (k := 2) (i := 0) rfl rfl rfl rfl rfl) ?_
    cases neg
  · refine AC.step tab ?_
    refine gos ?_
    refine RetW.plain (by simp) ?_
    rfl
  · refine AC.step tab ?_
    refine gos ?_
    refine AC.go tab ?_
    refine gos ?_
    refine DrawW.P (.take 0 (.take 2 (.take 3 (.take 6 (.take 7 (.fork (.cons 1 (.take 4 (.fork (.cons 5 (.take 8 (.take 9 (.take 10 .done))) (.cons 8 (.take 5 (.take 9 (.take 10 .done))) .nil)))) (.cons 4 (.fork (.cons 1 (.fork (.cons 5 (.take 8 (.take 9 (.take 10 .done))) (.cons 8 (.take 5 (.take 9 (.take 10 .done))) .nil))) (.cons 8 (.take 1 (.take 5 (.take 9 (.take 10 .done)))) .nil))) (.cons 8 (.fork (.cons 1 (.take 4 (.take 5 (.take 9 (.take 10 .done)))) (.cons 4 (.take 1 (.take 5 (.take 9 (.take 10 .done)))) .nil))) .nil))))))))) ?_
    (repeat' (first | exact trivial | exact encP_three _ | exact encP_ones _ | refine gof ?_ | refine fun (vv : Nat) => ?_ | refine And.intro ?_ ?_))
    all_goals
      refine RetW.wk (r' := .agg [.fsl ([[.int .i64 1, .str [], .int .i64 0]] ++ p.map encP), encL q]) (by simp) ?_ (Wk.agg (cs := [.sl 2 vv, encL q]) (cs' := [.fsl ([[.int .i64 1, .str [], .int .i64 0]] ++ p.map encP), encL q]) rfl
        (Wk.row (k := 0) (i := 2) (o := ⟨vv, 133, 3, [[.int .i64 1, .str [], .int .i64 0]] ++ p.map encP⟩) rfl rfl rfl (encs_closed (⟨1, [], 0⟩ :: p)))) ?_
      · rfl
      · rfl
  · refine AC.step tab ?_
    refine gos ?_
    refine RetW.plain (by simp) ?_
    rfl
  · refine AC.step tab ?_
    refine gos ?_
    refine RetW.plain (by simp) ?_
    rfl
end Go.Proofs.YtjjppmbojcgdgaaGreatDoor

namespace Go.Proofs.YtjjppmbojcgdgaaGreatDoor
open Go Go.Abs
attribute [local irreducible] DrawW CallW RetW AC Does CmpW
variable {G : Globs}
def cntF (k : Int) : List Piece → Nat
  | [] => 0
  | p :: ps => (if p.kind = k then 1 else 0) + cntF k ps
theorem cntF_le (k : Int) : ∀ ps : List Piece, cntF k ps ≤ ps.length
  | [] => Nat.le_refl _
  | p :: ps => by
    have := cntF_le k ps
    simp only [cntF, List.length_cons]
    split <;> omega
def cnt2 (k : Int) (x : List Piece × List Piece) : Nat := cntF k x.1 + cntF k x.2
theorem count_does (x : List Piece × List Piece) (h1 : x.1.length < 200000) (h2 : x.2.length < 200000) (k : Int) : Does Tryz.prog G 235 [encS x, .int .i64 k] [] fun ae _ => ae = .ret (.int .i64 (cnt2 k x)) := by
  obtain ⟨p, q⟩ := x
  simp only at h1 h2
  have c1 := cntF_le k p
  have c2 := cntF_le k q
  refine Does.bodyA tab Tryz.func235 rfl rfl ?_
  refine AC.step tab ?_
  refine gos ?_
  intro v1
  refine gos ?_
  refine AC.wk (Wk.ptr (k := 2) (i := 0) rfl rfl rfl rfl rfl) ?_
  refine AC.step tab ?_
  refine gos ?_
  refine AC.cutF tab (fun e h => e = [.any, .any, .any, .any, .any, .int .i64 (cnt2 k (p, q))] ++ List.replicate 29 .any ∧ h = []) ?_ ?_
  · (repeat (first | refine gof ?_ | refine fun (vv : Nat) => ?_))
    refine AC.rounds tab 3 ?_
    refine gos ?_
    rw [show (encL (p, q).1) = encL p from rfl, show (encL (p, q).2) = encL q from rfl]
    refine And.intro (And.intro (of_decide_eq_true rfl) (of_decide_eq_true rfl)) ?_
    refine gos ?_
    rw [show (p.map encP).length = p.length by simp]
    refine AC.loopC tab (fun f e h => ∃ (i n : Nat), f + i = p.length + 1 ∧ i ≤ p.length ∧ n + cntF k (p.drop i) = 0 + cntF k p ∧ n ≤ 0 + i ∧
        e = [.any, .int .i64 k, .any, .any, .any, .int .i64 n, .any, .any, .any, .any, .any, .any, .any, .any, .sl 1 vv, .int .i64 2, .int .i64 0, .any, .any, .any, encL p, .int .i64 p.length, .int .i64 i] ++ List.replicate 12 .any ∧ h = [none, some ⟨vv, 36, 1, [[encL p], [encL q]]⟩])
      (p.length + 1) ⟨_, fgts, 0, 0, by omega, by omega, rfl, by omega, rfl, rfl⟩ ?_
    rintro f e h ⟨i, n, hf, hi, hn, hni, rfl, rfl⟩
    refine gos ?_
    by_cases hlt : i < p.length
    · obtain ⟨x, hx⟩ : ∃ x, p[i]? = some x := ⟨_, List.getElem?_eq_getElem hlt⟩
      rw [drop_cons' hx] at hn
      simp only [cntF] at hn
      refine CmpW.T ?_
      refine gos ?_
      refine And.intro (encP_three p) (And.intro (by omega) ⟨encP x, encP_get hx, ?_⟩)
      (repeat (first | refine gof ?_ | refine fun (vv : Nat) => ?_))
      by_cases hk : x.kind = k
      · rw [if_pos hk] at hn
        refine CmpW.t (by simpa using hk) ?_
        (repeat (first | refine gof ?_ | refine fun (vv : Nat) => ?_))
        exact ⟨f - 1, _, 2, by omega, fgts, i + 1, n + 1, by omega, by omega, by omega, by omega, rfl, rfl⟩
      · rw [if_neg hk] at hn
        refine CmpW.f (by simpa using hk) ?_
        (repeat (first | refine gof ?_ | refine fun (vv : Nat) => ?_))
        exact ⟨f - 1, _, 2, by omega, fgts, i + 1, n, by omega, by omega, by omega, by omega, rfl, rfl⟩
    · refine CmpW.N ?_
      rw [List.drop_of_length_le (by omega)] at hn
      simp only [cntF, Nat.add_zero] at hn
      subst hn
      refine gos ?_
      refine And.intro (And.intro (of_decide_eq_true rfl) (of_decide_eq_true rfl)) ?_
      refine gos ?_
      rw [show (q.map encP).length = q.length by simp, Nat.zero_add]
      refine AC.loopC tab (fun f e h => ∃ (i n : Nat), f + i = q.length + 1 ∧ i ≤ q.length ∧ n + cntF k (q.drop i) = cntF k p + cntF k q ∧ n ≤ cntF k p + i ∧
          e = [.any, .int .i64 k, .any, .any, .any, .int .i64 n, .any, .any, .any, .any, .any, .any, .any, .any, .sl 1 vv, .int .i64 2, .int .i64 1, .any, .any, .any, encL q, .int .i64 q.length, .int .i64 i] ++ List.replicate 12 .any ∧ h = [none, some ⟨vv, 36, 1, [[encL p], [encL q]]⟩])
        (q.length + 1) ⟨_, fgts, 0, cntF k p, by omega, by omega, rfl, by omega, rfl, rfl⟩ ?_
      rintro f e h ⟨i, n, hf, hi, hn, hni, rfl, rfl⟩
      refine gos ?_
      by_cases hlt : i < q.length
      · obtain ⟨x, hx⟩ : ∃ x, q[i]? = some x := ⟨_, List.getElem?_eq_getElem hlt⟩
        rw [drop_cons' hx] at hn
        simp only [cntF] at hn
        refine CmpW.T ?_
        refine gos ?_
        refine And.intro (encP_three q) (And.intro (by omega) ⟨encP x, encP_get hx, ?_⟩)
        (repeat (first | refine gof ?_ | refine fun (vv : Nat) => ?_))
        by_cases hk : x.kind = k
        · rw [if_pos hk] at hn
          refine CmpW.t (by simpa using hk) ?_
          (repeat (first | refine gof ?_ | refine fun (vv : Nat) => ?_))
          exact ⟨f - 1, _, 2, by omega, fgts, i + 1, n + 1, by omega, by omega, by omega, by omega, rfl, rfl⟩
        · rw [if_neg hk] at hn
          refine CmpW.f (by simpa using hk) ?_
          (repeat (first | refine gof ?_ | refine fun (vv : Nat) => ?_))
          exact ⟨f - 1, _, 2, by omega, fgts, i + 1, n, by omega, by omega, by omega, by omega, rfl, rfl⟩
      · refine CmpW.N ?_
        rw [List.drop_of_length_le (by omega)] at hn
        simp only [cntF, Nat.add_zero] at hn
        subst hn
        refine gos ?_
        exact ⟨_, 0, fgts, rfl, rfl⟩
  rintro e h ⟨rfl, rfl⟩
  refine AC.go tab ?_
  refine gos ?_
  refine RetW.plain (by simp) ?_
  rfl
end Go.Proofs.YtjjppmbojcgdgaaGreatDoor

namespace Go.Proofs.YtjjppmbojcgdgaaGreatDoor
open Go Go.Abs
attribute [local irreducible] DrawW CallW RetW AC Does CmpW
variable {G : Globs}
def okS (cur per : Int) (x : List Piece × List Piece) : Bool := decide ((cnt2 5 x : Int) = cur ∧ (cnt2 3 x : Int) = per ∧ cnt2 4 x = 0)
def sdsF (v : PatV) (cur per : Int) : Bool := okS cur per (sidesF v false) && okS cur per (sidesF v true)
theorem sides_small {v : PatV} (hv : v.small) (neg : Bool) : (sidesF v neg).1.length < 200000 ∧ (sidesF v neg).2.length < 200000 := by
  obtain ⟨h1, h2, h3, h4⟩ := hv
  unfold sidesF
  split
  · split <;> simp only [List.length_cons] <;> omega
  · simp only; omega
theorem vsides_does (v : PatV) (hv : v.small) (cur per : Int) : Does Tryz.prog G 177 [encV v, .int .i64 cur, .int .i64 per] [] fun ae _ => ae = .ret (.bool (sdsF v cur per)) := by
  obtain ⟨X, hX⟩ : ∃ X, X = sidesF v false := ⟨_, rfl⟩
  obtain ⟨Y, hY⟩ : ∃ Y, Y = sidesF v true := ⟨_, rfl⟩
  have sX := sides_small hv false
  have sY := sides_small hv true
  have dX := Sides_does (G := G) v hv false
  have dY := Sides_does (G := G) v hv true
  rw [← hX] at sX dX
  rw [← hY] at sY dY
  have hS : sdsF v cur per = (okS cur per X && okS cur per Y) := by unfold sdsF; rw [← hX, ← hY]
  rw [hS]
  clear hS hX hY hv
  refine Does.bodyA tab Tryz.func177 rfl rfl ?_
  obtain ⟨p, q, p', q', two, N⟩ := v
  cases two
  all_goals
    refine AC.step tab ?_
    refine gos ?_
    intro v1
    refine gos ?_
    refine AC.wk (Wk.ptr (k := 3) (i := 0) rfl rfl rfl rfl rfl) ?_
    refine AC.cutA (fun e h => okS cur per X = true ∧ okS cur per Y = true ∧ e = List.replicate 35 .any ∧ h = []) ?_ ?_
    · refine AC.cutF tab (fun e h => ∃ vr, e = [.any, .int .i64 cur, .int .i64 per, .any, .any, .any, .any, .any, .any, .any, .any, .any, .any, .sl 1 vr, .int .i64 2, .int .i64 0] ++ List.replicate 19 .any ∧ h = [none, some ⟨vr, 51, 2, [[encL X.1, encL X.2], [encL Y.1, encL Y.2]]⟩]) ?_ ?_
      · refine gos ?_
        refine DrawW.P (.take 0 (.take 6 (.fork (.cons 1 (.take 2 (.take 3 (.take 4 (.take 5 .done)))) (.cons 2 (.take 1 (.take 3 (.take 4 (.take 5 .done)))) .nil))))) ?_
        refine gos ?_
        refine And.intro ?_ (And.intro ?_ trivial)
        · refine gos ?_
          refine CallW.pure dX rfl rfl ?_
          refine gos ?_
          refine CallW.pure dY rfl rfl ?_
          (repeat (first | refine gof ?_ | refine fun (vv : Nat) => ?_))
          exact ⟨_, 2, fgts, vv, rfl, rfl⟩
        · refine gos ?_
          refine CallW.pure dX rfl rfl ?_
          refine gos ?_
          refine CallW.pure dY rfl rfl ?_
          (repeat (first | refine gof ?_ | refine fun (vv : Nat) => ?_))
          exact ⟨_, 2, fgts, vv, rfl, rfl⟩
      rintro e h ⟨vr, rfl, rfl⟩
      refine AC.go tab ?_
      refine gos ?_
      refine AC.rounds tab 3 ?_
      refine gos ?_
      refine And.intro (And.intro (of_decide_eq_true rfl) (of_decide_eq_true rfl)) ?_
      (repeat (first | refine gof ?_ | refine fun (vv : Nat) => ?_))
      refine CallW.pure (count_does X sX.1 sX.2 5) rfl rfl ?_
      refine gos ?_
      by_cases c5 : (cnt2 5 X : Int) = cur
      case neg =>
        refine CmpW.t (by simpa using c5) ?_
        refine gos ?_
        refine RetW.plain (by simp) ?_
        rw [show okS cur per X = false by simp_all [okS]]
        rfl
      refine CmpW.f (by simpa using c5) ?_
      refine gos ?_
      refine CallW.pure (count_does X sX.1 sX.2 3) rfl rfl ?_
      refine gos ?_
      by_cases c3 : (cnt2 3 X : Int) = per
      case neg =>
        refine CmpW.t (by simpa using c3) ?_
        refine gos ?_
        refine RetW.plain (by simp) ?_
        rw [show okS cur per X = false by simp_all [okS]]
        rfl
      refine CmpW.f (by simpa using c3) ?_
      refine gos ?_
      refine CallW.pure (count_does X sX.1 sX.2 4) rfl rfl ?_
      refine gos ?_
      by_cases c4 : cnt2 4 X = 0
      case neg =>
        refine CmpW.t (by simpa using c4) ?_
        refine gos ?_
        refine RetW.plain (by simp) ?_
        rw [show okS cur per X = false by simp_all [okS]]
        rfl
      refine CmpW.f (by simpa using c4) ?_
      have kX : okS cur per X = true := by simp [okS, c5, c3, c4]
      clear c5 c3 c4
      refine gos ?_
      refine And.intro (And.intro (of_decide_eq_true rfl) (of_decide_eq_true rfl)) ?_
      (repeat (first | refine gof ?_ | refine fun (vv : Nat) => ?_))
      refine CallW.pure (count_does Y sY.1 sY.2 5) rfl rfl ?_
      refine gos ?_
      by_cases c5 : (cnt2 5 Y : Int) = cur
      case neg =>
        refine CmpW.t (by simpa using c5) ?_
        refine gos ?_
        refine RetW.plain (by simp) ?_
        rw [kX, show okS cur per Y = false by simp_all [okS]]
        rfl
      refine CmpW.f (by simpa using c5) ?_
      refine gos ?_
      refine CallW.pure (count_does Y sY.1 sY.2 3) rfl rfl ?_
      refine gos ?_
      by_cases c3 : (cnt2 3 Y : Int) = per
      case neg =>
        refine CmpW.t (by simpa using c3) ?_
        refine gos ?_
        refine RetW.plain (by simp) ?_
        rw [kX, show okS cur per Y = false by simp_all [okS]]
        rfl
      refine CmpW.f (by simpa using c3) ?_
      refine gos ?_
      refine CallW.pure (count_does Y sY.1 sY.2 4) rfl rfl ?_
      refine gos ?_
      by_cases c4 : cnt2 4 Y = 0
      case neg =>
        refine CmpW.t (by simpa using c4) ?_
        refine gos ?_
        refine RetW.plain (by simp) ?_
        rw [kX, show okS cur per Y = false by simp_all [okS]]
        rfl
      refine CmpW.f (by simpa using c4) ?_
      have kY : okS cur per Y = true := by simp [okS, c5, c3, c4]
      clear c5 c3 c4
      refine gos ?_
      exact ⟨_, 0, fgts, kX, kY, rfl, rfl⟩
    rintro e h ⟨kX, kY, rfl, rfl⟩
    rw [kX, kY]
    refine AC.go tab ?_
    refine gos ?_
    refine RetW.plain (by simp) ?_
    rfl
def shapF (s : List UInt8) (cur per : Int) : Bool := match parE s with
  | .ok v => sdsF v cur per
  | .error _ => false
theorem shaped_does (m : Int) (s : List UInt8) (hs : s.length < 100000) (cur per : Int) : Does Tryz.prog (GL m) 89 [.str s, .int .i64 cur, .int .i64 per] [] fun ae _ => ae = .ret (.bool (shapF s cur per)) := by
  have dP := Parse_does (m := m) s hs
  rw [parF_eq] at dP
  refine Does.bodyA tab Tryz.func89 rfl rfl ?_
  refine AC.step tab ?_
  refine gos ?_
  refine AC.step tab ?_
  refine gos ?_
  cases hE : parE s with
  | error x =>
    obtain ⟨c, a⟩ := x
    have hc := parE_bad hE
    have hF : shapF s cur per = false := by simp [shapF, hE]
    rw [hE] at dP
    rw [hF]
    refine CallW.pure dP rfl rfl ?_
    (repeat (first | refine gof ?_ | refine fun (vv : Nat) => ?_))
    refine AC.step tab ?_
    refine gos ?_
    refine CmpW.f (by simp; omega) ?_
    refine gos ?_
    refine AC.go tab ?_
    refine gos ?_
    refine RetW.plain (by simp) ?_
    rfl
  | ok v =>
    have hv := parE_small hE
    have hF : shapF s cur per = sdsF v cur per := by simp [shapF, hE]
    have dS := vsides_does (G := GL m) v hv cur per
    rw [hE] at dP
    rw [hF]
    clear hF hv hE
    generalize sdsF v cur per = R at dS
    obtain ⟨p, q, p', q', two, N⟩ := v
    cases two
    all_goals
      refine CallW.pure dP rfl rfl ?_
      (repeat (first | refine gof ?_ | refine fun (vv : Nat) => ?_))
      refine AC.step tab ?_
      refine gos ?_
      refine CallW.pure dS rfl rfl ?_
      refine gos ?_
      refine AC.go tab ?_
      refine gos ?_
      refine RetW.plain (by simp) ?_
      rfl
end Go.Proofs.YtjjppmbojcgdgaaGreatDoor

namespace Go.Proofs.YtjjppmbojcgdgaaGreatDoor
open Go Go.Abs
attribute [local irreducible] DrawW CallW RetW AC Does CmpW
variable {G : Globs}
def strs27 (t : TTab) : List (List UInt8) := [t.dg.d0, t.dg.d1, t.dg.d2, t.dg.d3, t.dg.d4, t.dg.d5, t.dg.d6, t.dg.d7, t.dg.d8, t.dg.d9, t.minus, t.plus, t.percent, t.permille, t.point, t.comma, t.decimal, t.per, t.money, t.account, t.rules, t.before.cur, t.before.num, t.before.ins, t.after.cur, t.after.num, t.after.ins]
def offs27 : List Nat := [0, 1, 2, 3, 4, 5, 6, 7, 8, 9, 10, 11, 12, 13, 14, 15, 17, 18, 19, 20, 21, 28, 29, 30, 31, 32, 33]
def ptrsF (t : TTab) : List (List AV) := offs27.map fun k => [.fptr ((tabC t).drop k)]
def ptrsO (v : Nat) : List (List AV) := offs27.map fun k => [.ptr 0 v 0 k]
theorem ptrsF_get (t : TTab) {i : Nat} (hi : i < 27) : ∃ s cs, (strs27 t)[i]? = some s ∧ (ptrsF t)[i]? = some [.fptr (.str s :: cs)] := by
  have : i = 0 ∨ i = 1 ∨ i = 2 ∨ i = 3 ∨ i = 4 ∨ i = 5 ∨ i = 6 ∨ i = 7 ∨ i = 8 ∨ i = 9 ∨ i = 10 ∨ i = 11 ∨ i = 12 ∨ i = 13 ∨ i = 14 ∨ i = 15 ∨ i = 16 ∨ i = 17 ∨ i = 18 ∨ i = 19 ∨ i = 20 ∨ i = 21 ∨ i = 22 ∨ i = 23 ∨ i = 24 ∨ i = 25 ∨ i = 26 := by omega
  rcases this with rfl | rfl | rfl | rfl | rfl | rfl | rfl | rfl | rfl | rfl | rfl | rfl | rfl | rfl | rfl | rfl | rfl | rfl | rfl | rfl | rfl | rfl | rfl | rfl | rfl | rfl | rfl
  all_goals exact ⟨_, _, rfl, rfl⟩
theorem ptrsF_one (t : TTab) : ∀ y ∈ ptrsF t, y.length = 1 := fun y hy => by obtain ⟨z, _, rfl⟩ := List.mem_map.1 hy; rfl
theorem textsF_does (t : TTab) : Does Tryz.prog G 75 [.fptr (tabC t)] [] fun ae _ => ae = .ret (.fsl (ptrsF t)) := by
  refine Does.bodyA tab Tryz.func75 rfl rfl ?_
  refine AC.step tab ?_
  refine gos ?_
  refine AC.step tab ?_
  refine gos ?_
  intro v1
  refine gos ?_
  refine AC.cutF tab (fun e h => ∃ v2, e = ([.fptr (tabC t)] ++ List.replicate 2 .any ++ [.sl 0 v2] ++ List.replicate 74 .any) ∧ h = [some ⟨v2, 142, 1, (ptrsF t).take 10⟩]) ?_ ?_
  · refine gos ?_
    refine AC.rounds tab 11 ?_
    (repeat (first | refine gof ?_ | refine fun (vv : Nat) => ?_))
    exact ⟨_, 1, fgts, _, rfl, rfl⟩
  rintro e h ⟨v2, rfl, rfl⟩
  refine AC.go tab ?_
  refine gos ?_
  refine DrawW.L ?_
  refine gos ?_
  intro v3
  refine gos ?_
  refine And.intro (And.intro (fun y hy => by obtain ⟨z, _, rfl⟩ := List.mem_map.1 (show y ∈ (offs27.drop 10).map (fun k => [AV.fptr ((tabC t).drop k)]) from hy); rfl) (fun y hy => by obtain ⟨z, _, rfl⟩ := List.mem_map.1 (show y ∈ (offs27.drop 10).map (fun k => [AV.fptr ((tabC t).drop k)]) from hy); rfl)) ?_
  refine And.intro (And.intro rfl trivial) ?_
  (repeat (first | refine gof ?_ | refine fun (vv : Nat) => ?_))
  refine RetW.wk (r' := .fsl (ptrsF t)) (by simp) ?_ (Wk.row (k := 0) (i := 0) (o := ⟨vv, 142, 1, ptrsF t⟩) rfl rfl rfl rfl) ?_
  · rfl
  rfl
theorem textsO_does (es : List (List AV)) (v : Nat) : Does Tryz.prog G 75 [.ptr 0 v 0 0] [some ⟨v, 65, 34, es⟩, none] fun ae O => ∃ N, ae = .ret (.sl 1 N) ∧ O = [some ⟨v, 65, 34, es⟩, some ⟨N, 142, 1, ptrsO v⟩] := by
  refine Does.bodyA tab Tryz.func75 rfl rfl ?_
  refine AC.step tab ?_
  refine gos ?_
  refine AC.step tab ?_
  refine gos ?_
  intro v1
  refine gos ?_
  refine AC.cutF tab (fun e h => ∃ v2, e = ([.ptr 0 v 0 0] ++ List.replicate 2 .any ++ [.sl 2 v2] ++ List.replicate 74 .any) ∧ h = [some ⟨v, 65, 34, es⟩, none, some ⟨v2, 142, 1, (ptrsO v).take 10⟩]) ?_ ?_
  · refine gos ?_
    refine AC.rounds tab 11 ?_
    (repeat (first | refine gof ?_ | refine fun (vv : Nat) => ?_))
    exact ⟨_, 3, fgts, _, rfl, rfl⟩
  rintro e h ⟨v2, rfl, rfl⟩
  refine AC.go tab ?_
  refine gos ?_
  refine DrawW.L ?_
  refine gos ?_
  intro v3
  refine gos ?_
  refine And.intro (And.intro (fun y hy => by obtain ⟨z, _, rfl⟩ := List.mem_map.1 (show y ∈ (offs27.drop 10).map (fun k => [AV.ptr 0 v 0 k]) from hy); rfl) (fun y hy => by obtain ⟨z, _, rfl⟩ := List.mem_map.1 (show y ∈ (offs27.drop 10).map (fun k => [AV.ptr 0 v 0 k]) from hy); rfl)) ?_
  refine And.intro (And.intro rfl trivial) ?_
  (repeat (first | refine gof ?_ | refine fun (vv : Nat) => ?_))
  refine RetW.move (j := 1) (k := 2) (by simp) rfl rfl (fun N => ?_)
  exact ⟨N, rfl, rfl⟩
end Go.Proofs.YtjjppmbojcgdgaaGreatDoor
