/- Classes: what some ranges make; all others. -/
import Derived.Test.YtpbjjhpihhnomaaGreatDoorJ17
set_option linter.unusedVariables false
set_option linter.unusedSimpArgs false
set_option maxRecDepth 100000
set_option maxHeartbeats 4000000

namespace Go.Proofs.YtpbjjhpihhnomaaGreatDoor
open Go Go.Abs
attribute [local irreducible] DrawW CallW RetW AC Does CmpW
variable {G : Globs}
def okR (x : Rg) : Bool := decide (x.1 ≤ x.2)
def mergR (out : List Rg) (x : Rg) : List Rg := match out.getLast? with
  | some y => if x.1.val ≤ y.2.val + 1 then out.dropLast ++ [(y.1, if y.2.val < x.2.val then x.2 else y.2)] else out ++ [x]
  | none => [x]
def madeR (l : List Rg) : List Rg := (sortRg (l.filter okR)).foldl mergR []
theorem mergR_len (out : List Rg) (x : Rg) : (mergR out x).length ≤ out.length + 1 := by
  unfold mergR
  split
  · split
    · simp
      try omega
    · simp
  · simp
theorem foldM_len : ∀ (l out : List Rg), (l.foldl mergR out).length ≤ out.length + l.length
  | [], out => by simp
  | x :: l, out => by
    have := foldM_len l (mergR out x)
    have := mergR_len out x
    simp only [List.foldl_cons, List.length_cons]
    omega
theorem madeR_len (l : List Rg) : (madeR l).length ≤ l.length := by
  have h1 := foldM_len (sortRg (l.filter okR)) []
  have h2 := sortRg_length (l.filter okR)
  have h3 := List.length_filter_le okR l
  unfold madeR
  simp only [List.length_nil] at h1
  omega
def rgEs (l : List Rg) : List (List AV) := l.map encG
@[simp] theorem rgEs_len (l : List Rg) : (rgEs l).length = l.length := by simp [rgEs]
theorem rgEs_closed : ∀ l, closedLL (rgEs l) = true
  | [] => rfl
  | x :: xs => by simp [rgEs, closedLL, encG, closedL, closed]; exact rgEs_closed xs
theorem rgEs_two (l : List Rg) : ∀ y ∈ rgEs l, y.length = 2 := fun y hy => by
  obtain ⟨z, _, rfl⟩ := List.mem_map.1 hy; rfl
theorem rgEs_get {l : List Rg} {i : Nat} {x : Rg} (h : l[i]? = some x) : (rgEs l)[i]? = some (encG x) := by simp [rgEs, h]
theorem drop_cons' {α : Type} {l : List α} {i : Nat} {x : α} (h : l[i]? = some x) : l.drop i = x :: l.drop (i + 1) := by
  obtain ⟨h1, h2⟩ := List.getElem?_eq_some_iff.1 h
  rw [List.drop_eq_getElem_cons h1, h2]
theorem mergR_snoc (a : List Rg) (y x : Rg) : mergR (a ++ [y]) x = if x.1.val ≤ y.2.val + 1 then a ++ [(y.1, if y.2.val < x.2.val then x.2 else y.2)] else a ++ [y] ++ [x] := by
  unfold mergR; simp
theorem rgEs_last (a : List Rg) (y : Rg) : (rgEs (a ++ [y]))[a.length]? = some (encG y) := rgEs_get (by simp)
def clampZ (x : Int × Int) : Option Rg := if max x.1 0 ≤ min x.2 1114111 then some (Fin.ofNat 1114112 (max x.1 0).toNat, Fin.ofNat 1114112 (min x.2 1114111).toNat) else none
def madeZ (l : List (Int × Int)) : List Rg := (sortRg (l.filterMap clampZ)).foldl mergR []
theorem clamp_some {x : Int × Int} {y : Rg} (h : clampZ x = some y) : (y.1.val : Int) = max x.1 0 ∧ (y.2.val : Int) = min x.2 1114111 ∧ y.1.val ≤ y.2.val := by
  unfold clampZ at h
  split at h
  · next hc =>
    cases h
    simp only [Fin.val_ofNat]
    omega
  · cases h
def toZ (x : Rg) : Int × Int := ((x.1.val : Int), (x.2.val : Int))
theorem clamp_of (x : Rg) : clampZ (toZ x) = if okR x = true then some x else none := by
  have h1 := x.1.isLt
  have h2 := x.2.isLt
  have e1 : max (toZ x).1 0 = (x.1.val : Int) := by show max (x.1.val : Int) 0 = _; omega
  have e2 : min (toZ x).2 1114111 = (x.2.val : Int) := by show min (x.2.val : Int) 1114111 = _; omega
  have e3 : ((x.1.val : Int) ≤ (x.2.val : Int)) ↔ okR x = true := by
    unfold okR
    rw [decide_eq_true_eq, Fin.le_def]
    omega
  unfold clampZ
  rw [e1, e2, Int.toNat_natCast, Int.toNat_natCast]
  by_cases h : okR x = true
  · rw [if_pos h, if_pos (e3.2 h)]
    exact congrArg some (Prod.ext (Fin.ext (Nat.mod_eq_of_lt h1)) (Fin.ext (Nat.mod_eq_of_lt h2)))
  · rw [if_neg h, if_neg (fun k => h (e3.1 k))]
theorem clamp_all : ∀ l : List Rg, (l.map toZ).filterMap clampZ = l.filter okR
  | [] => rfl
  | x :: l => by
    have ih := clamp_all l
    have h := clamp_of x
    rw [List.map_cons]
    by_cases hx : okR x = true
    · rw [if_pos hx] at h
      rw [List.filterMap_cons_some h, List.filter_cons_of_pos hx, ih]
    · rw [if_neg hx] at h
      rw [List.filterMap_cons_none h, List.filter_cons_of_neg hx, ih]
def zE (x : Int × Int) : List AV := [.int .i32 x.1, .int .i32 x.2]
theorem madeZ_does (l : List (Int × Int)) (hs : l.length < 65536) : Does Tryz.prog G 25 [.fsl (l.map zE)] [] fun ae _ => ae = .ret (.fsl (rgEs (madeZ l))) := by
  have ll : (l.map zE).length = l.length := by simp
  refine Does.bodyA tab Tryz.func25 rfl rfl ?_
  refine AC.step tab ?_
  refine gos ?_
  refine AC.step tab ?_
  refine gos ?_
  refine AC.own 3 155 2 rfl (by omega) fun v0 => ?_
  refine AC.cutF tab (fun e h => ∃ va, e = [.any, .any, .nils, .sl 0 va] ++ List.replicate 74 .any ∧ h = [some ⟨va, 155, 2, rgEs (l.filterMap clampZ)⟩]) ?_ ?_
  · refine gos ?_
    rw [ll]
    refine AC.loopC tab (fun f e h => ∃ (i va : Nat) (acc : List Rg), f + i = l.length + 1 ∧ i ≤ l.length ∧ acc.length ≤ i ∧ l.filterMap clampZ = acc ++ (l.drop i).filterMap clampZ ∧ e = [.any, .any, .nils, .sl 0 va, .any, .any, .any, .any, .any, .any, .fsl (l.map zE), .int .i64 l.length, .int .i64 i] ++ List.replicate 65 .any ∧ h = [some ⟨va, 155, 2, rgEs acc⟩])
      (l.length + 1) ⟨_, fgts, 0, v0, [], by omega, by omega, by simp, rfl, rfl, rfl⟩ ?_
    rintro f e h ⟨i, va, acc, hf, hi, hacc, hF, rfl, rfl⟩
    refine gos ?_
    by_cases hlt : i < l.length
    · obtain ⟨x, hx⟩ : ∃ x, l[i]? = some x := ⟨_, List.getElem?_eq_getElem hlt⟩
      rw [drop_cons' hx] at hF
      refine CmpW.T ?_
      refine gos ?_
      refine And.intro (fun y hy => by obtain ⟨z, _, rfl⟩ := List.mem_map.1 hy; rfl) (And.intro (by omega) ⟨zE x, by rw [Int.toNat_natCast, List.getElem?_map, hx]; rfl, ?_⟩)
      (repeat (first | refine gof ?_ | refine fun (vv : Nat) => ?_))
      obtain ⟨a, b⟩ := x
      simp only [show (if (0 : Int) > a then (0 : Int) else a) = max a 0 from by split <;> omega, show (if (1114111 : Int) < b then (1114111 : Int) else b) = min b 1114111 from by split <;> omega]
      by_cases hok : max a 0 ≤ min b 1114111
      · obtain ⟨y, hy⟩ : ∃ y, clampZ (a, b) = some y := ⟨_, if_pos hok⟩
        obtain ⟨c1, c2, c3⟩ := clamp_some hy
        rw [List.filterMap_cons_some hy] at hF
        refine CmpW.T ?_
        (repeat (first | refine gof ?_ | refine fun (vv : Nat) => ?_))
        exact ⟨f - 1, _, 1, by omega, fgts, i + 1, _, acc ++ [y], by omega, by omega, by simp; omega, by rw [hF]; simp, rfl, by simp [rgEs, encG, c1, c2]⟩
      · rw [List.filterMap_cons_none (show clampZ (a, b) = none from if_neg hok)] at hF
        refine CmpW.N ?_
        (repeat (first | refine gof ?_ | refine fun (vv : Nat) => ?_))
        exact ⟨f - 1, _, 1, by omega, fgts, i + 1, _, acc, by omega, by omega, by omega, hF, rfl, rfl⟩
    · refine CmpW.N ?_
      refine gos ?_
      rw [List.drop_of_length_le (by omega)] at hF
      simp only [List.filterMap_nil, List.append_nil] at hF
      rw [hF]
      exact ⟨_, 1, fgts, va, rfl, rfl⟩
  rintro e h ⟨va, rfl, rfl⟩
  obtain ⟨q, hq⟩ : ∃ q, q = l.filterMap clampZ := ⟨_, rfl⟩
  have hql : q.length ≤ l.length := by rw [hq]; exact List.length_filterMap_le clampZ l
  have hM : madeZ l = (sortRg q).foldl mergR [] := by rw [hq]; rfl
  rw [← hq, hM]
  refine AC.step tab ?_
  refine gos ?_
  refine CallW.meth 0 (sortR_does q va (by omega)) rfl rfl rfl (rgEs_closed _) (rgs_closed _ _) rfl ?_
  have hsl := sortRg_length q
  obtain ⟨p, hp⟩ : ∃ p, p = sortRg q := ⟨_, rfl⟩
  rw [← hp] at hsl ⊢
  refine gos ?_
  refine AC.step tab ?_
  refine gos ?_
  refine AC.own 6 155 2 rfl (by omega) fun v1 => ?_
  refine AC.cutF tab (fun e h => ∃ vb, e = [.any, .any, .nils, .any, .any, .any, .sl 1 vb] ++ List.replicate 71 .any ∧ h = [some (rgs va p.toArray), some ⟨vb, 155, 2, rgEs (p.foldl mergR [])⟩]) ?_ ?_
  · refine gos ?_
    have e1 : (rgs va p.toArray).es.length = p.length := by simp
    rw [e1]
    refine AC.loopC tab (fun f e h => ∃ (i vb : Nat) (acc : List Rg), f + i = p.length + 1 ∧ i ≤ p.length ∧ acc.length ≤ i ∧ p.foldl mergR [] = (p.drop i).foldl mergR acc ∧
        e = [.any, .any, .nils, .any, .any, .any, .sl 1 vb] ++ List.replicate 29 .any ++ [.sl 0 va, .int .i64 p.length, .int .i64 i] ++ List.replicate 39 .any ∧ h = [some (rgs va p.toArray), some ⟨vb, 155, 2, rgEs acc⟩])
      (p.length + 1) ⟨_, fgts, 0, v1, [], by omega, by omega, by simp, rfl, rfl, rfl⟩ ?_
    rintro f e h ⟨i, vb, acc, hf, hi, hacc, hF, rfl, rfl⟩
    refine gos ?_
    by_cases hlt : i < p.length
    · obtain ⟨x, hx⟩ : ∃ x, p[i]? = some x := ⟨_, List.getElem?_eq_getElem hlt⟩
      rw [drop_cons' hx] at hF
      simp only [List.foldl_cons] at hF
      have hx1 := x.1.isLt
      have hx2 := x.2.isLt
      refine CmpW.T ?_
      refine gos ?_
      refine And.intro (And.intro (by omega) (by rw [e1]; omega)) ?_
      (repeat (first | refine gof ?_ | refine fun (vv : Nat) => ?_))
      refine ⟨encG x, by simp [rgs, hx], ?_⟩
      (repeat (first | refine gof ?_ | refine fun (vv : Nat) => ?_))
      refine DrawW.L ?_
      (repeat (first | refine gof ?_ | refine fun (vv : Nat) => ?_))
      rcases List.eq_nil_or_concat acc with rfl | ⟨a0, y, ha⟩
      · refine CmpW.N ?_
        (repeat (first | refine gof ?_ | refine fun (vv : Nat) => ?_))
        exact ⟨f - 1, _, 2, by omega, fgts, i + 1, _, [x], by omega, by omega, by simp, hF, rfl, rfl⟩
      · rw [List.concat_eq_append] at ha
        subst ha
        rw [mergR_snoc] at hF
        have hy2 := y.2.isLt
        have e3 : (rgEs (a0 ++ [y])).length = a0.length + 1 := by simp
        have e2 : ((rgEs (a0 ++ [y])).length : Int) - 1 = (a0.length : Int) := by omega
        have hacc2 : a0.length + 1 ≤ i := by simpa using hacc
        refine CmpW.T ?_
        (repeat (first | refine gof ?_ | refine fun (vv : Nat) => ?_))
        rw [e2]
        refine And.intro (And.intro (by omega) (by simp; omega)) ?_
        (repeat (first | refine gof ?_ | refine fun (vv : Nat) => ?_))
        refine ⟨encG y, by rw [Int.toNat_natCast]; exact rgEs_last a0 y, ?_⟩
        (repeat (first | refine gof ?_ | refine fun (vv : Nat) => ?_))
        rw [show IntKind.i32.wrap ((y.2.val : Int) + 1) = ((y.2.val + 1 : Nat) : Int) by rw [wrap_i32 (by omega) (by omega)]; simp]
        (repeat (first | refine gof ?_ | refine fun (vv : Nat) => ?_))
        by_cases hm : x.1.val ≤ y.2.val + 1
        · rw [if_pos hm] at hF
          refine CmpW.T ?_
          (repeat (first | refine gof ?_ | refine fun (vv : Nat) => ?_))
          refine DrawW.L ?_
          (repeat (first | refine gof ?_ | refine fun (vv : Nat) => ?_))
          simp only [e3, show ((a0.length + 1 : Nat) : Int) - 1 = (a0.length : Int) by omega]
          refine And.intro (And.intro (by omega) (by omega)) ?_
          (repeat (first | refine gof ?_ | refine fun (vv : Nat) => ?_))
          refine ⟨encG y, by rw [Int.toNat_natCast]; exact rgEs_last a0 y, ?_⟩
          (repeat (first | refine gof ?_ | refine fun (vv : Nat) => ?_))
          refine And.intro (And.intro (by omega) (by simp; omega)) ?_
          (repeat (first | refine gof ?_ | refine fun (vv : Nat) => ?_))
          refine ⟨encG y, by rw [Int.toNat_natCast]; exact rgEs_last a0 y, ?_⟩
          (repeat (first | refine gof ?_ | refine fun (vv : Nat) => ?_))
          refine ⟨f - 1, _, 2, by omega, fgts, i + 1, _, _, by omega, by omega, ?_, hF, rfl, ?_⟩
          · simp; omega
          by_cases hyx : y.2.val < x.2.val
          · simp [hyx, rgEs, encG]
          · simp [hyx, rgEs, encG]
        · rw [if_neg hm] at hF
          refine CmpW.N ?_
          (repeat (first | refine gof ?_ | refine fun (vv : Nat) => ?_))
          exact ⟨f - 1, _, 2, by omega, fgts, i + 1, _, a0 ++ [y] ++ [x], by omega, by omega, by simp at hacc ⊢; omega, hF, rfl, by simp [rgEs, encG]⟩
    · refine CmpW.N ?_
      refine gos ?_
      rw [List.drop_of_length_le (by omega)] at hF
      simp only [List.foldl_nil] at hF
      rw [hF]
      exact ⟨_, 2, fgts, vb, rfl, rfl⟩
  rintro e h ⟨vb, rfl, rfl⟩
  refine AC.go tab ?_
  refine gos ?_
  refine RetW.wk (r' := .fsl (rgEs (p.foldl mergR []))) (by simp) ?_ (Wk.row (k := 0) (i := 1) (o := ⟨vb, 155, 2, rgEs (p.foldl mergR [])⟩) rfl rfl rfl (rgEs_closed _)) ?_ <;> rfl
theorem made_does (l : List Rg) (hs : l.length < 65536) : Does Tryz.prog G 25 [.fsl (rgEs l)] [] fun ae _ => ae = .ret (.fsl (rgEs (madeR l))) := by
  have h := madeZ_does (G := G) (l.map toZ) (by rw [List.length_map]; exact hs)
  rw [show madeZ (l.map toZ) = madeR l from by unfold madeZ madeR; rw [clamp_all], List.map_map] at h
  exact h
def mkR (a b : Nat) : Rg := (Fin.ofNat 1114112 a, Fin.ofNat 1114112 b)
theorem encG_mk {a b : Nat} (ha : a < 1114112) (hb : b < 1114112) : encG (mkR a b) = [.int .i32 (a : Int), .int .i32 (b : Int)] := by
  simp only [encG, mkR, Fin.val_ofNat, Nat.mod_eq_of_lt ha, Nat.mod_eq_of_lt hb]
def notS (st : List Rg × Nat) (x : Rg) : List Rg × Nat := (if st.2 < x.1.val then st.1 ++ [mkR st.2 (x.1.val - 1)] else st.1, x.2.val + 1)
def notR (c : List Rg) : List Rg := if (c.foldl notS ([], 0)).2 ≤ 1114111 then (c.foldl notS ([], 0)).1 ++ [mkR (c.foldl notS ([], 0)).2 1114111] else (c.foldl notS ([], 0)).1
theorem notS_len : ∀ (l : List Rg) (st : List Rg × Nat), (l.foldl notS st).1.length ≤ st.1.length + l.length
  | [], st => by simp
  | x :: l, st => by
    have h := notS_len l (notS st x)
    have h2 : (notS st x).1.length ≤ st.1.length + 1 := by unfold notS; simp only; split <;> simp
    simp only [List.foldl_cons, List.length_cons]
    omega
theorem notR_len (c : List Rg) : (notR c).length ≤ c.length + 1 := by
  have h := notS_len c ([], 0)
  simp only [List.length_nil] at h
  unfold notR
  split
  · rw [List.length_append]; simp only [List.length_cons, List.length_nil]; omega
  · omega
theorem cnot_does (l : List Rg) (hs : l.length < 100000) : Does Tryz.prog G 245 [.fsl (rgEs l)] [] fun ae _ => ae = .ret (.fsl (rgEs (notR l))) := by
  refine Does.bodyA tab Tryz.func245 rfl rfl ?_
  refine AC.step tab ?_
  refine gos ?_
  refine AC.step tab ?_
  refine gos ?_
  refine AC.own 3 155 2 rfl (by omega) fun v0 => ?_
  refine AC.step tab ?_
  refine gos ?_
  obtain ⟨R, hR⟩ : ∃ R, R = l.foldl notS ([], 0) := ⟨_, rfl⟩
  have hN : notR l = if R.2 ≤ 1114111 then R.1 ++ [mkR R.2 1114111] else R.1 := by rw [hR]; rfl
  rw [hN]
  refine AC.cutF tab (fun e h => ∃ va, R.2 ≤ 1114112 ∧ R.1.length ≤ l.length ∧ e = [.any, .any, .nils, .sl 0 va, .int .i32 R.2] ++ List.replicate 32 .any ∧ h = [some ⟨va, 155, 2, rgEs R.1⟩]) ?_ ?_
  · refine gos ?_
    rw [rgEs_len]
    refine AC.loopC tab (fun f e h => ∃ (i va : Nat) (st : List Rg × Nat), f + i = l.length + 1 ∧ i ≤ l.length ∧ st.1.length ≤ i ∧ st.2 ≤ 1114112 ∧ R = (l.drop i).foldl notS st ∧
        e = [.any, .any, .nils, .sl 0 va, .int .i32 st.2, .any, .any, .fsl (rgEs l), .int .i64 l.length, .int .i64 i] ++ List.replicate 27 .any ∧ h = [some ⟨va, 155, 2, rgEs st.1⟩])
      (l.length + 1) ⟨_, fgts, 0, v0, ([], 0), by omega, by omega, by simp, by simp, hR, rfl, rfl⟩ ?_
    rintro f e h ⟨i, va, ⟨acc, nx⟩, hf, hi, hacc, hnx, hF, rfl, rfl⟩
    simp only at hacc hnx
    refine gos ?_
    by_cases hlt : i < l.length
    · obtain ⟨x, hx⟩ : ∃ x, l[i]? = some x := ⟨_, List.getElem?_eq_getElem hlt⟩
      rw [drop_cons' hx] at hF
      simp only [List.foldl_cons, notS] at hF
      have hx1 := x.1.isLt
      have hx2 := x.2.isLt
      refine CmpW.T ?_
      refine gos ?_
      refine And.intro (rgEs_two l) (And.intro (by omega) ⟨encG x, rgEs_get hx, ?_⟩)
      (repeat (first | refine gof ?_ | refine fun (vv : Nat) => ?_))
      by_cases hlo : nx < x.1.val
      · rw [if_pos hlo] at hF
        refine CmpW.T ?_
        (repeat (first | refine gof ?_ | refine fun (vv : Nat) => ?_))
        rw [show IntKind.i32.wrap ((x.1.val : Int) - 1) = ((x.1.val - 1 : Nat) : Int) by rw [wrap_i32 (by omega) (by omega)]; omega]
        (repeat (first | refine gof ?_ | refine fun (vv : Nat) => ?_))
        rw [show IntKind.i32.wrap ((x.2.val : Int) + 1) = ((x.2.val + 1 : Nat) : Int) by rw [wrap_i32 (by omega) (by omega)]; omega]
        (repeat (first | refine gof ?_ | refine fun (vv : Nat) => ?_))
        exact ⟨f - 1, _, 1, by omega, fgts, i + 1, _, _, by omega, by omega, by simp; omega, by simp; omega, hF, rfl, by simp [rgEs, encG_mk (show nx < 1114112 by omega) (show x.1.val - 1 < 1114112 by omega)]⟩
      · rw [if_neg hlo] at hF
        refine CmpW.N ?_
        (repeat (first | refine gof ?_ | refine fun (vv : Nat) => ?_))
        rw [show IntKind.i32.wrap ((x.2.val : Int) + 1) = ((x.2.val + 1 : Nat) : Int) by rw [wrap_i32 (by omega) (by omega)]; omega]
        (repeat (first | refine gof ?_ | refine fun (vv : Nat) => ?_))
        exact ⟨f - 1, _, 1, by omega, fgts, i + 1, _, _, by omega, by omega, by simp; omega, by simp; omega, hF, rfl, rfl⟩
    · refine CmpW.N ?_
      refine gos ?_
      rw [List.drop_of_length_le (by omega)] at hF
      simp only [List.foldl_nil] at hF
      rw [hF]
      exact ⟨_, 1, fgts, va, hnx, by simp; omega, rfl, rfl⟩
  rintro e h ⟨va, hn, hl, rfl, rfl⟩
  refine AC.cutF tab (fun e h => ∃ vb, e = [.any, .any, .nils, .sl 0 vb] ++ List.replicate 33 .any ∧ h = [some ⟨vb, 155, 2, rgEs (if R.2 ≤ 1114111 then R.1 ++ [mkR R.2 1114111] else R.1)⟩]) ?_ ?_
  · refine gos ?_
    by_cases ht : R.2 ≤ 1114111
    · rw [if_pos ht]
      refine CmpW.T ?_
      (repeat (first | refine gof ?_ | refine fun (vv : Nat) => ?_))
      exact ⟨_, 1, fgts, _, rfl, by simp [rgEs, encG_mk (show R.2 < 1114112 by omega) (show 1114111 < 1114112 by omega)]⟩
    · rw [if_neg ht]
      refine CmpW.N ?_
      (repeat (first | refine gof ?_ | refine fun (vv : Nat) => ?_))
      exact ⟨_, 1, fgts, va, rfl, rfl⟩
  rintro e h ⟨vb, rfl, rfl⟩
  refine AC.go tab ?_
  refine gos ?_
  refine RetW.wk (r' := .fsl (rgEs (if R.2 ≤ 1114111 then R.1 ++ [mkR R.2 1114111] else R.1))) (by simp) ?_ (Wk.row (k := 0) (i := 0) (o := ⟨vb, 155, 2, rgEs (if R.2 ≤ 1114111 then R.1 ++ [mkR R.2 1114111] else R.1)⟩) rfl rfl rfl (rgEs_closed _)) ?_ <;> rfl
end Go.Proofs.YtpbjjhpihhnomaaGreatDoor
