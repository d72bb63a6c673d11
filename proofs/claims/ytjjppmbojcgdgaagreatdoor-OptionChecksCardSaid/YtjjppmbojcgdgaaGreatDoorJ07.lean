/- A table's bytes; what is laid is read again. -/
import Derived.Test.YtjjppmbojcgdgaaGreatDoorJ06
import Derived.Test.YtjjppmbojcgdgaaGreatDoorJ02
set_option linter.unusedVariables false
set_option linter.unusedSimpArgs false
set_option maxRecDepth 100000
set_option maxHeartbeats 4000000

namespace Go.Proofs.YtjjppmbojcgdgaaGreatDoor
open Go Go.Abs
attribute [local irreducible] DrawW CallW RetW AC Does CmpW
variable {G : Globs}
def okR (x : Rg) : Bool := decide (x.1 ≤ x.2)
def mergR (out : List Rg) (x : Rg) : List Rg := match out.getLast? with
  | some y => if x.1.val ≤ y.2.val + 1 then out.dropLast ++ [(y.1, if y.2.val < x.2.val then x.2 else y.2)] else out ++ [x]
  | none => [x]
def madeR (l : List Rg) : List Rg := (sortRg (l.filter okR)).foldl mergR []
theorem mergR_len (out : List Rg) (x : Rg) : (mergR out x).length ≤ out.length + 1 := by
  unfold mergR
  split
  · split
    · simp
      try omega
    · simp
  · simp
theorem foldM_len : ∀ (l out : List Rg), (l.foldl mergR out).length ≤ out.length + l.length
  | [], out => by simp
  | x :: l, out => by
    have := foldM_len l (mergR out x)
    have := mergR_len out x
    simp only [List.foldl_cons, List.length_cons]
    omega
theorem madeR_len (l : List Rg) : (madeR l).length ≤ l.length := by
  have h1 := foldM_len (sortRg (l.filter okR)) []
  have h2 := sortRg_length (l.filter okR)
  have h3 := List.length_filter_le okR l
  unfold madeR
  simp only [List.length_nil] at h1
  omega
def rgEs (l : List Rg) : List (List AV) := l.map encG
@[simp] theorem rgEs_len (l : List Rg) : (rgEs l).length = l.length := by simp [rgEs]
theorem rgEs_closed : ∀ l, closedLL (rgEs l) = true
  | [] => rfl
  | x :: xs => by simp [rgEs, closedLL, encG, closedL, closed]; exact rgEs_closed xs
theorem rgEs_two (l : List Rg) : ∀ y ∈ rgEs l, y.length = 2 := fun y hy => by
  obtain ⟨z, _, rfl⟩ := List.mem_map.1 hy; rfl
theorem rgEs_get {l : List Rg} {i : Nat} {x : Rg} (h : l[i]? = some x) : (rgEs l)[i]? = some (encG x) := by simp [rgEs, h]
theorem drop_cons' {α : Type} {l : List α} {i : Nat} {x : α} (h : l[i]? = some x) : l.drop i = x :: l.drop (i + 1) := by
  obtain ⟨h1, h2⟩ := List.getElem?_eq_some_iff.1 h
  rw [List.drop_eq_getElem_cons h1, h2]
theorem mergR_snoc (a : List Rg) (y x : Rg) : mergR (a ++ [y]) x = if x.1.val ≤ y.2.val + 1 then a ++ [(y.1, if y.2.val < x.2.val then x.2 else y.2)] else a ++ [y] ++ [x] := by
  unfold mergR; simp
theorem rgEs_last (a : List Rg) (y : Rg) : (rgEs (a ++ [y]))[a.length]? = some (encG y) := rgEs_get (by simp)
def clampZ (x : Int × Int) : Option Rg := if max x.1 0 ≤ min x.2 1114111 then some (Fin.ofNat 1114112 (max x.1 0).toNat, Fin.ofNat 1114112 (min x.2 1114111).toNat) else none
def madeZ (l : List (Int × Int)) : List Rg := (sortRg (l.filterMap clampZ)).foldl mergR []
theorem clamp_some {x : Int × Int} {y : Rg} (h : clampZ x = some y) : (y.1.val : Int) = max x.1 0 ∧ (y.2.val : Int) = min x.2 1114111 ∧ y.1.val ≤ y.2.val := by
  unfold clampZ at h
  split at h
  · next hc =>
    cases h
    simp only [Fin.val_ofNat]
    omega
  · cases h
def toZ (x : Rg) : Int × Int := ((x.1.val : Int), (x.2.val : Int))
theorem clamp_of (x : Rg) : clampZ (toZ x) = if okR x = true then some x else none := by
  have h1 := x.1.isLt
  have h2 := x.2.isLt
  have e1 : max (toZ x).1 0 = (x.1.val : Int) := by show max (x.1.val : Int) 0 = _; omega
  have e2 : min (toZ x).2 1114111 = (x.2.val : Int) := by show min (x.2.val : Int) 1114111 = _; omega
  have e3 : ((x.1.val : Int) ≤ (x.2.val : Int)) ↔ okR x = true := by
    unfold okR
    rw [decide_eq_true_eq, Fin.le_def]
    omega
  unfold clampZ
  rw [e1, e2, Int.toNat_natCast, Int.toNat_natCast]
  by_cases h : okR x = true
  · rw [if_pos h, if_pos (e3.2 h)]
    exact congrArg some (Prod.ext (Fin.ext (Nat.mod_eq_of_lt h1)) (Fin.ext (Nat.mod_eq_of_lt h2)))
  · rw [if_neg h, if_neg (fun k => h (e3.1 k))]
theorem clamp_all : ∀ l : List Rg, (l.map toZ).filterMap clampZ = l.filter okR
  | [] => rfl
  | x :: l => by
    have ih := clamp_all l
    have h := clamp_of x
    rw [List.map_cons]
    by_cases hx : okR x = true
    · rw [if_pos hx] at h
      rw [List.filterMap_cons_some h, List.filter_cons_of_pos hx, ih]
    · rw [if_neg hx] at h
      rw [List.filterMap_cons_none h, List.filter_cons_of_neg hx, ih]
def zE (x : Int × Int) : List AV := [.int .i32 x.1, .int .i32 x.2]
theorem madeZ_does (l : List (Int × Int)) (hs : l.length < 65536) : Does Tryz.prog G 12 [.fsl (l.map zE)] [] fun ae _ => ae = .ret (.fsl (rgEs (madeZ l))) := by
  have ll : (l.map zE).length = l.length := by simp
  refine Does.bodyA tab Tryz.func12 rfl rfl ?_
  refine AC.step tab ?_
  refine gos ?_
  refine AC.step tab ?_
  refine gos ?_
  refine AC.own 3 121 2 rfl (by omega) fun v0 => ?_
  refine AC.cutF tab (fun e h => ∃ va, e = [.any, .any, .nils, .sl 0 va] ++ List.replicate 74 .any ∧ h = [some ⟨va, 121, 2, rgEs (l.filterMap clampZ)⟩]) ?_ ?_
  · refine gos ?_
    rw [ll]
    refine AC.loopC tab (fun f e h => ∃ (i va : Nat) (acc : List Rg), f + i = l.length + 1 ∧ i ≤ l.length ∧ acc.length ≤ i ∧ l.filterMap clampZ = acc ++ (l.drop i).filterMap clampZ ∧ e = [.any, .any, .nils, .sl 0 va, .any, .any, .any, .any, .any, .any, .fsl (l.map zE), .int .i64 l.length, .int .i64 i] ++ List.replicate 65 .any ∧ h = [some ⟨va, 121, 2, rgEs acc⟩])
      (l.length + 1) ⟨_, fgts, 0, v0, [], by omega, by omega, by simp, rfl, rfl, rfl⟩ ?_
    rintro f e h ⟨i, va, acc, hf, hi, hacc, hF, rfl, rfl⟩
    refine gos ?_
    by_cases hlt : i < l.length
    · obtain ⟨x, hx⟩ : ∃ x, l[i]? = some x := ⟨_, List.getElem?_eq_getElem hlt⟩
      rw [drop_cons' hx] at hF
      refine CmpW.T ?_
      refine gos ?_
      refine And.intro (fun y hy => by obtain ⟨z, _, rfl⟩ := List.mem_map.1 hy; rfl) (And.intro (by omega) ⟨zE x, by rw [Int.toNat_natCast, List.getElem?_map, hx]; rfl, ?_⟩)
      (repeat (first | refine gof ?_ | refine fun (vv : Nat) => ?_))
      obtain ⟨a, b⟩ := x
      simp only [show (if (0 : Int) > a then (0 : Int) else a) = max a 0 from by split <;> omega, show (if (1114111 : Int) < b then (1114111 : Int) else b) = min b 1114111 from by split <;> omega]
      by_cases hok : max a 0 ≤ min b 1114111
      · obtain ⟨y, hy⟩ : ∃ y, clampZ (a, b) = some y := ⟨_, if_pos hok⟩
        obtain ⟨c1, c2, c3⟩ := clamp_some hy
        rw [List.filterMap_cons_some hy] at hF
        refine CmpW.T ?_
        (repeat (first | refine gof ?_ | refine fun (vv : Nat) => ?_))
        exact ⟨f - 1, _, 1, by omega, fgts, i + 1, _, acc ++ [y], by omega, by omega, by simp; omega, by rw [hF]; simp, rfl, by simp [rgEs, encG, c1, c2]⟩
      · rw [List.filterMap_cons_none (show clampZ (a, b) = none from if_neg hok)] at hF
        refine CmpW.N ?_
        (repeat (first | refine gof ?_ | refine fun (vv : Nat) => ?_))
        exact ⟨f - 1, _, 1, by omega, fgts, i + 1, _, acc, by omega, by omega, by omega, hF, rfl, rfl⟩
    · refine CmpW.N ?_
      refine gos ?_
      rw [List.drop_of_length_le (by omega)] at hF
      simp only [List.filterMap_nil, List.append_nil] at hF
      rw [hF]
      exact ⟨_, 1, fgts, va, rfl, rfl⟩
  rintro e h ⟨va, rfl, rfl⟩
  obtain ⟨q, hq⟩ : ∃ q, q = l.filterMap clampZ := ⟨_, rfl⟩
  have hql : q.length ≤ l.length := by rw [hq]; exact List.length_filterMap_le clampZ l
  have hM : madeZ l = (sortRg q).foldl mergR [] := by rw [hq]; rfl
  rw [← hq, hM]
  refine AC.step tab ?_
  refine gos ?_
  refine CallW.meth 0 (sortR_does q va (by omega)) rfl rfl rfl (rgEs_closed _) (rgs_closed _ _) rfl ?_
  have hsl := sortRg_length q
  obtain ⟨p, hp⟩ : ∃ p, p = sortRg q := ⟨_, rfl⟩
  rw [← hp] at hsl ⊢
  refine gos ?_
  refine AC.step tab ?_
  refine gos ?_
  refine AC.own 6 121 2 rfl (by omega) fun v1 => ?_
  refine AC.cutF tab (fun e h => ∃ vb, e = [.any, .any, .nils, .any, .any, .any, .sl 1 vb] ++ List.replicate 71 .any ∧ h = [some (rgs va p.toArray), some ⟨vb, 121, 2, rgEs (p.foldl mergR [])⟩]) ?_ ?_
  · refine gos ?_
    have e1 : (rgs va p.toArray).es.length = p.length := by simp
    rw [e1]
    refine AC.loopC tab (fun f e h => ∃ (i vb : Nat) (acc : List Rg), f + i = p.length + 1 ∧ i ≤ p.length ∧ acc.length ≤ i ∧ p.foldl mergR [] = (p.drop i).foldl mergR acc ∧
        e = [.any, .any, .nils, .any, .any, .any, .sl 1 vb] ++ List.replicate 29 .any ++ [.sl 0 va, .int .i64 p.length, .int .i64 i] ++ List.replicate 39 .any ∧ h = [some (rgs va p.toArray), some ⟨vb, 121, 2, rgEs acc⟩])
      (p.length + 1) ⟨_, fgts, 0, v1, [], by omega, by omega, by simp, rfl, rfl, rfl⟩ ?_
    rintro f e h ⟨i, vb, acc, hf, hi, hacc, hF, rfl, rfl⟩
    refine gos ?_
    by_cases hlt : i < p.length
    · obtain ⟨x, hx⟩ : ∃ x, p[i]? = some x := ⟨_, List.getElem?_eq_getElem hlt⟩
      rw [drop_cons' hx] at hF
      simp only [List.foldl_cons] at hF
      have hx1 := x.1.isLt
      have hx2 := x.2.isLt
      refine CmpW.T ?_
      refine gos ?_
      refine And.intro (And.intro (by omega) (by rw [e1]; omega)) ?_
      (repeat (first | refine gof ?_ | refine fun (vv : Nat) => ?_))
      refine ⟨encG x, by simp [rgs, hx], ?_⟩
      (repeat (first | refine gof ?_ | refine fun (vv : Nat) => ?_))
      refine DrawW.L ?_
      (repeat (first | refine gof ?_ | refine fun (vv : Nat) => ?_))
      rcases List.eq_nil_or_concat acc with rfl | ⟨a0, y, ha⟩
      · refine CmpW.N ?_
        (repeat (first | refine gof ?_ | refine fun (vv : Nat) => ?_))
        exact ⟨f - 1, _, 2, by omega, fgts, i + 1, _, [x], by omega, by omega, by simp, hF, rfl, rfl⟩
      · rw [List.concat_eq_append] at ha
        subst ha
        rw [mergR_snoc] at hF
        have hy2 := y.2.isLt
        have e3 : (rgEs (a0 ++ [y])).length = a0.length + 1 := by simp
        have e2 : ((rgEs (a0 ++ [y])).length : Int) - 1 = (a0.length : Int) := by omega
        have hacc2 : a0.length + 1 ≤ i := by simpa using hacc
        refine CmpW.T ?_
        (repeat (first | refine gof ?_ | refine fun (vv : Nat) => ?_))
        rw [e2]
        refine And.intro (And.intro (by omega) (by simp; omega)) ?_
        (repeat (first | refine gof ?_ | refine fun (vv : Nat) => ?_))
        refine ⟨encG y, by rw [Int.toNat_natCast]; exact rgEs_last a0 y, ?_⟩
        (repeat (first | refine gof ?_ | refine fun (vv : Nat) => ?_))
        rw [show IntKind.i32.wrap ((y.2.val : Int) + 1) = ((y.2.val + 1 : Nat) : Int) by rw [wrap_i32 (by omega) (by omega)]; simp]
        (repeat (first | refine gof ?_ | refine fun (vv : Nat) => ?_))
        by_cases hm : x.1.val ≤ y.2.val + 1
        · rw [if_pos hm] at hF
          refine CmpW.T ?_
          (repeat (first | refine gof ?_ | refine fun (vv : Nat) => ?_))
          refine DrawW.L ?_
          (repeat (first | refine gof ?_ | refine fun (vv : Nat) => ?_))
          simp only [e3, show ((a0.length + 1 : Nat) : Int) - 1 = (a0.length : Int) by omega]
          refine And.intro (And.intro (by omega) (by omega)) ?_
          (repeat (first | refine gof ?_ | refine fun (vv : Nat) => ?_))
          refine ⟨encG y, by rw [Int.toNat_natCast]; exact rgEs_last a0 y, ?_⟩
          (repeat (first | refine gof ?_ | refine fun (vv : Nat) => ?_))
          refine And.intro (And.intro (by omega) (by simp; omega)) ?_
          (repeat (first | refine gof ?_ | refine fun (vv : Nat) => ?_))
          refine ⟨encG y, by rw [Int.toNat_natCast]; exact rgEs_last a0 y, ?_⟩
          (repeat (first | refine gof ?_ | refine fun (vv : Nat) => ?_))
          refine ⟨f - 1, _, 2, by omega, fgts, i + 1, _, _, by omega, by omega, ?_, hF, rfl, ?_⟩
          · simp; omega
          by_cases hyx : y.2.val < x.2.val
          · simp [hyx, rgEs, encG]
          · simp [hyx, rgEs, encG]
        · rw [if_neg hm] at hF
          refine CmpW.N ?_
          (repeat (first | refine gof ?_ | refine fun (vv : Nat) => ?_))
          exact ⟨f - 1, _, 2, by omega, fgts, i + 1, _, a0 ++ [y] ++ [x], by omega, by omega, by simp at hacc ⊢; omega, hF, rfl, by simp [rgEs, encG]⟩
    · refine CmpW.N ?_
      refine gos ?_
      rw [List.drop_of_length_le (by omega)] at hF
      simp only [List.foldl_nil] at hF
      rw [hF]
      exact ⟨_, 2, fgts, vb, rfl, rfl⟩
  rintro e h ⟨vb, rfl, rfl⟩
  refine AC.go tab ?_
  refine gos ?_
  refine RetW.wk (r' := .fsl (rgEs (p.foldl mergR []))) (by simp) ?_ (Wk.row (k := 0) (i := 1) (o := ⟨vb, 121, 2, rgEs (p.foldl mergR [])⟩) rfl rfl rfl (rgEs_closed _)) ?_ <;> rfl
theorem made_does (l : List Rg) (hs : l.length < 65536) : Does Tryz.prog G 12 [.fsl (rgEs l)] [] fun ae _ => ae = .ret (.fsl (rgEs (madeR l))) := by
  have h := madeZ_does (G := G) (l.map toZ) (by rw [List.length_map]; exact hs)
  rw [show madeZ (l.map toZ) = madeR l from by unfold madeZ madeR; rw [clamp_all], List.map_map] at h
  exact h
def mkR (a b : Nat) : Rg := (Fin.ofNat 1114112 a, Fin.ofNat 1114112 b)
theorem encG_mk {a b : Nat} (ha : a < 1114112) (hb : b < 1114112) : encG (mkR a b) = [.int .i32 (a : Int), .int .i32 (b : Int)] := by
  simp only [encG, mkR, Fin.val_ofNat, Nat.mod_eq_of_lt ha, Nat.mod_eq_of_lt hb]
def notS (st : List Rg × Nat) (x : Rg) : List Rg × Nat := (if st.2 < x.1.val then st.1 ++ [mkR st.2 (x.1.val - 1)] else st.1, x.2.val + 1)
def notR (c : List Rg) : List Rg := if (c.foldl notS ([], 0)).2 ≤ 1114111 then (c.foldl notS ([], 0)).1 ++ [mkR (c.foldl notS ([], 0)).2 1114111] else (c.foldl notS ([], 0)).1
theorem notS_len : ∀ (l : List Rg) (st : List Rg × Nat), (l.foldl notS st).1.length ≤ st.1.length + l.length
  | [], st => by simp
  | x :: l, st => by
    have h := notS_len l (notS st x)
    have h2 : (notS st x).1.length ≤ st.1.length + 1 := by unfold notS; simp only; split <;> simp
    simp only [List.foldl_cons, List.length_cons]
    omega
theorem notR_len (c : List Rg) : (notR c).length ≤ c.length + 1 := by
  have h := notS_len c ([], 0)
  simp only [List.length_nil] at h
  unfold notR
  split
  · rw [List.length_append]; simp only [List.length_cons, List.length_nil]; omega
  · omega
theorem cnot_does (l : List Rg) (hs : l.length < 100000) : Does Tryz.prog G 253 [.fsl (rgEs l)] [] fun ae _ => ae = .ret (.fsl (rgEs (notR l))) := by
  refine Does.bodyA tab Tryz.func253 rfl rfl ?_
  refine AC.step tab ?_
  refine gos ?_
  refine AC.step tab ?_
  refine gos ?_
  refine AC.own 3 121 2 rfl (by omega) fun v0 => ?_
  refine AC.step tab ?_
  refine gos ?_
  obtain ⟨R, hR⟩ : ∃ R, R = l.foldl notS ([], 0) := ⟨_, rfl⟩
  have hN : notR l = if R.2 ≤ 1114111 then R.1 ++ [mkR R.2 1114111] else R.1 := by rw [hR]; rfl
  rw [hN]
  refine AC.cutF tab (fun e h => ∃ va, R.2 ≤ 1114112 ∧ R.1.length ≤ l.length ∧ e = [.any, .any, .nils, .sl 0 va, .int .i32 R.2] ++ List.replicate 32 .any ∧ h = [some ⟨va, 121, 2, rgEs R.1⟩]) ?_ ?_
  · refine gos ?_
    rw [rgEs_len]
    refine AC.loopC tab (fun f e h => ∃ (i va : Nat) (st : List Rg × Nat), f + i = l.length + 1 ∧ i ≤ l.length ∧ st.1.length ≤ i ∧ st.2 ≤ 1114112 ∧ R = (l.drop i).foldl notS st ∧
        e = [.any, .any, .nils, .sl 0 va, .int .i32 st.2, .any, .any, .fsl (rgEs l), .int .i64 l.length, .int .i64 i] ++ List.replicate 27 .any ∧ h = [some ⟨va, 121, 2, rgEs st.1⟩])
      (l.length + 1) ⟨_, fgts, 0, v0, ([], 0), by omega, by omega, by simp, by simp, hR, rfl, rfl⟩ ?_
    rintro f e h ⟨i, va, ⟨acc, nx⟩, hf, hi, hacc, hnx, hF, rfl, rfl⟩
    simp only at hacc hnx
    refine gos ?_
    by_cases hlt : i < l.length
    · obtain ⟨x, hx⟩ : ∃ x, l[i]? = some x := ⟨_, List.getElem?_eq_getElem hlt⟩
      rw [drop_cons' hx] at hF
      simp only [List.foldl_cons, notS] at hF
      have hx1 := x.1.isLt
      have hx2 := x.2.isLt
      refine CmpW.T ?_
      refine gos ?_
      refine And.intro (rgEs_two l) (And.intro (by omega) ⟨encG x, rgEs_get hx, ?_⟩)
      (repeat (first | refine gof ?_ | refine fun (vv : Nat) => ?_))
      by_cases hlo : nx < x.1.val
      · rw [if_pos hlo] at hF
        refine CmpW.T ?_
        (repeat (first | refine gof ?_ | refine fun (vv : Nat) => ?_))
        rw [show IntKind.i32.wrap ((x.1.val : Int) - 1) = ((x.1.val - 1 : Nat) : Int) by rw [wrap_i32 (by omega) (by omega)]; omega]
        (repeat (first | refine gof ?_ | refine fun (vv : Nat) => ?_))
        rw [show IntKind.i32.wrap ((x.2.val : Int) + 1) = ((x.2.val + 1 : Nat) : Int) by rw [wrap_i32 (by omega) (by omega)]; omega]
        (repeat (first | refine gof ?_ | refine fun (vv : Nat) => ?_))
        exact ⟨f - 1, _, 1, by omega, fgts, i + 1, _, _, by omega, by omega, by simp; omega, by simp; omega, hF, rfl, by simp [rgEs, encG_mk (show nx < 1114112 by omega) (show x.1.val - 1 < 1114112 by omega)]⟩
      · rw [if_neg hlo] at hF
        refine CmpW.N ?_
        (repeat (first | refine gof ?_ | refine fun (vv : Nat) => ?_))
        rw [show IntKind.i32.wrap ((x.2.val : Int) + 1) = ((x.2.val + 1 : Nat) : Int) by rw [wrap_i32 (by omega) (by omega)]; omega]
        (repeat (first | refine gof ?_ | refine fun (vv : Nat) => ?_))
        exact ⟨f - 1, _, 1, by omega, fgts, i + 1, _, _, by omega, by omega, by simp; omega, by simp; omega, hF, rfl, rfl⟩
    · refine CmpW.N ?_
      refine gos ?_
      rw [List.drop_of_length_le (by omega)] at hF
      simp only [List.foldl_nil] at hF
      rw [hF]
      exact ⟨_, 1, fgts, va, hnx, by simp; omega, rfl, rfl⟩
  rintro e h ⟨va, hn, hl, rfl, rfl⟩
  refine AC.cutF tab (fun e h => ∃ vb, e = [.any, .any, .nils, .sl 0 vb] ++ List.replicate 33 .any ∧ h = [some ⟨vb, 121, 2, rgEs (if R.2 ≤ 1114111 then R.1 ++ [mkR R.2 1114111] else R.1)⟩]) ?_ ?_
  · refine gos ?_
    by_cases ht : R.2 ≤ 1114111
    · rw [if_pos ht]
      refine CmpW.T ?_
      (repeat (first | refine gof ?_ | refine fun (vv : Nat) => ?_))
      exact ⟨_, 1, fgts, _, rfl, by simp [rgEs, encG_mk (show R.2 < 1114112 by omega) (show 1114111 < 1114112 by omega)]⟩
    · rw [if_neg ht]
      refine CmpW.N ?_
      (repeat (first | refine gof ?_ | refine fun (vv : Nat) => ?_))
      exact ⟨_, 1, fgts, va, rfl, rfl⟩
  rintro e h ⟨vb, rfl, rfl⟩
  refine AC.go tab ?_
  refine gos ?_
  refine RetW.wk (r' := .fsl (rgEs (if R.2 ≤ 1114111 then R.1 ++ [mkR R.2 1114111] else R.1))) (by simp) ?_ (Wk.row (k := 0) (i := 0) (o := ⟨vb, 121, 2, rgEs (if R.2 ≤ 1114111 then R.1 ++ [mkR R.2 1114111] else R.1)⟩) rfl rfl rfl (rgEs_closed _)) ?_ <;> rfl
end Go.Proofs.YtjjppmbojcgdgaaGreatDoor

namespace Go.Proofs.YtjjppmbojcgdgaaGreatDoor
open Go Go.Abs
attribute [local irreducible] DrawW CallW RetW AC Does CmpW
structure TTxt where
  cat : Int
  text : List UInt8
structure TRow where
  mag : Int
  texts : List TTxt
structure TCur where
  code : List UInt8
  symbol : List UInt8
  narrow : List UInt8
  names : List TTxt
  digits : Int
  inc : Int
  cashDigits : Int
  cashInc : Int
structure TUnt where
  name : List UInt8
  texts : List TTxt
structure TSpc where
  cur : List UInt8
  num : List UInt8
  ins : List UInt8
structure TDig where
  d0 : List UInt8
  d1 : List UInt8
  d2 : List UInt8
  d3 : List UInt8
  d4 : List UInt8
  d5 : List UInt8
  d6 : List UInt8
  d7 : List UInt8
  d8 : List UInt8
  d9 : List UInt8
structure TTab where
  dg : TDig
  minus : List UInt8
  plus : List UInt8
  percent : List UInt8
  permille : List UInt8
  point : List UInt8
  comma : List UInt8
  minGroup : Int
  decimal : List UInt8
  per : List UInt8
  money : List UInt8
  account : List UInt8
  rules : List UInt8
  short : List TRow
  long : List TRow
  mshort : List TRow
  curs : List TCur
  units : List TUnt
  munit : List TTxt
  before : TSpc
  after : TSpc
def TDig.list (d : TDig) : List (List UInt8) := [d.d0, d.d1, d.d2, d.d3, d.d4, d.d5, d.d6, d.d7, d.d8, d.d9]
def TDig.cells (d : TDig) : List AV := [.str d.d0, .str d.d1, .str d.d2, .str d.d3, .str d.d4, .str d.d5, .str d.d6, .str d.d7, .str d.d8, .str d.d9]
def encT (t : TTxt) : List AV := [.int .i64 t.cat, .str t.text]
def txtL (l : List TTxt) : AV := .fsl (l.map encT)
def encR (r : TRow) : List AV := [.int .i64 r.mag, txtL r.texts]
def rowL (l : List TRow) : AV := .fsl (l.map encR)
def encCu (c : TCur) : List AV := [.str c.code, .str c.symbol, .str c.narrow, txtL c.names, .int .i64 c.digits, .int .i64 c.inc, .int .i64 c.cashDigits, .int .i64 c.cashInc]
def curL (l : List TCur) : AV := .fsl (l.map encCu)
def encU (u : TUnt) : List AV := [.str u.name, txtL u.texts]
def untL (l : List TUnt) : AV := .fsl (l.map encU)
def TSpc.cells (x : TSpc) : List AV := [.str x.cur, .str x.num, .str x.ins]
def tabC (t : TTab) : List AV := [.str t.dg.d0, .str t.dg.d1, .str t.dg.d2, .str t.dg.d3, .str t.dg.d4, .str t.dg.d5, .str t.dg.d6, .str t.dg.d7, .str t.dg.d8, .str t.dg.d9, .str t.minus, .str t.plus, .str t.percent, .str t.permille, .str t.point, .str t.comma,
  .int .i64 t.minGroup, .str t.decimal, .str t.per, .str t.money, .str t.account, .str t.rules, rowL t.short, rowL t.long, rowL t.mshort, curL t.curs, untL t.units, txtL t.munit, .str t.before.cur, .str t.before.num, .str t.before.ins, .str t.after.cur, .str t.after.num, .str t.after.ins]
theorem encT_two (l : List TTxt) : ∀ y ∈ l.map encT, y.length = 2 := fun y hy => by obtain ⟨z, _, rfl⟩ := List.mem_map.1 hy; rfl
theorem encR_two (l : List TRow) : ∀ y ∈ l.map encR, y.length = 2 := fun y hy => by obtain ⟨z, _, rfl⟩ := List.mem_map.1 hy; rfl
theorem encU_two (l : List TUnt) : ∀ y ∈ l.map encU, y.length = 2 := fun y hy => by obtain ⟨z, _, rfl⟩ := List.mem_map.1 hy; rfl
theorem encCu_eight (l : List TCur) : ∀ y ∈ l.map encCu, y.length = 8 := fun y hy => by obtain ⟨z, _, rfl⟩ := List.mem_map.1 hy; rfl
theorem map_get {α : Type} {f : α → List AV} {l : List α} {i : Nat} {x : α} (h : l[i]? = some x) : (l.map f)[i]? = some (f x) := by simp [h]
def nameF (s : List UInt8) : Bool := decide (s ≠ [] ∧ s.length ≤ 60) && rightF s
def maybeF (s : List UInt8) : Bool := decide (s = []) || nameF s
def inF (n lo hi : Int) : Bool := decide (lo ≤ n ∧ n ≤ hi)
def upB (c : UInt8) : Bool := decide (65 ≤ c.toNat ∧ c.toNat ≤ 90)
def codeF (s : List UInt8) : Bool := s.all upB && decide (s.length = 3)
def pointF (d : TDig) (s : List UInt8) : Bool := oneF s && (sonF d.list s).isNone
theorem vname_does (m : Int) (s : List UInt8) (hs : s.length < 4294967296) : Does Tryz.prog (GL m) 83 [.str s] [] fun ae _ => ae = .ret (.bool (nameF s)) := by
  refine Does.body tab Tryz.func83 rfl rfl ?_
  refine gos ?_
  by_cases h0 : s = []
  · refine CmpW.f (by simpa using h0) ?_
    refine gos ?_
    refine RetW.plain (by simp) ?_
    simp [nameF, h0]
  refine CmpW.t (by simpa using h0) ?_
  refine gos ?_
  by_cases h1 : s.length ≤ 60
  · refine CmpW.T ?_
    refine gos ?_
    refine CallW.pure (Right_does m s hs) rfl rfl ?_
    refine gos ?_
    refine RetW.plain (by simp) ?_
    simp [nameF, h0, h1]
  · refine CmpW.N ?_
    refine gos ?_
    refine RetW.plain (by simp) ?_
    simp [nameF, h1]
theorem maybe_does (m : Int) (s : List UInt8) (hs : s.length < 4294967296) : Does Tryz.prog (GL m) 182 [.str s] [] fun ae _ => ae = .ret (.bool (maybeF s)) := by
  refine Does.body tab Tryz.func182 rfl rfl ?_
  refine gos ?_
  by_cases h0 : s = []
  · refine CmpW.t (by simpa using h0) ?_
    refine gos ?_
    refine RetW.plain (by simp) ?_
    simp [maybeF, h0]
  refine CmpW.f (by simpa using h0) ?_
  refine gos ?_
  refine CallW.pure (vname_does m s hs) rfl rfl ?_
  refine gos ?_
  refine RetW.plain (by simp) ?_
  simp [maybeF, h0]
theorem vin_does {G : Globs} (n lo hi : Int) : Does Tryz.prog G 87 [.int .i64 n, .int .i64 lo, .int .i64 hi] [] fun ae _ => ae = .ret (.bool (inF n lo hi)) := by
  refine Does.body tab Tryz.func87 rfl rfl ?_
  refine gos ?_
  by_cases h0 : lo ≤ n
  · refine CmpW.T ?_
    refine gos ?_
    refine CmpW.s ?_
    refine gos ?_
    refine RetW.plain (by simp) ?_
    simp [inF, h0]
  · refine CmpW.N ?_
    refine gos ?_
    refine RetW.plain (by simp) ?_
    simp [inF, h0]
theorem code_does {G : Globs} (s : List UInt8) (hs : s.length < 4294967296) : Does Tryz.prog G 181 [.str s] [] fun ae _ => ae = .ret (.bool (codeF s)) := by
  refine Does.bodyA tab Tryz.func181 rfl rfl ?_
  refine AC.step tab ?_
  refine gos ?_
  refine AC.cutF tab (fun e h => s.all upB = true ∧ e = [.str s] ++ List.replicate 22 .any ∧ h = []) ?_ ?_
  · refine gos ?_
    refine AC.loopC tab (fun f e h => ∃ i : Nat, f + i = s.length + 1 ∧ i ≤ s.length ∧ s.all upB = (s.drop i).all upB ∧ e = [.str s, .any, .any, .any, .any, .int .i64 s.length, .int .i64 i] ++ List.replicate 16 .any ∧ h = []) (s.length + 1) ⟨_, fgts, 0, by omega, by omega, rfl, rfl, rfl⟩ ?_
    rintro f e h ⟨i, hf, hi, hF, rfl, rfl⟩
    refine gos ?_
    by_cases hlt : i < s.length
    · obtain ⟨c, hc⟩ : ∃ c, s[i]? = some c := ⟨_, List.getElem?_eq_getElem hlt⟩
      rw [drop_cons' hc, List.all_cons] at hF
      refine CmpW.T ?_
      refine gos ?_
      refine And.intro (by omega) ⟨c, hc, ?_⟩
      refine gos ?_
      by_cases h1 : c.toNat < 65
      · refine CmpW.T ?_
        refine gos ?_
        refine RetW.plain (by simp) ?_
        rw [codeF, hF, show upB c = false by simp [upB]; omega]; rfl
      refine CmpW.N ?_
      refine gos ?_
      refine And.intro (by omega) ⟨c, hc, ?_⟩
      refine gos ?_
      by_cases h2 : 90 < c.toNat
      · refine CmpW.T ?_
        refine gos ?_
        refine RetW.plain (by simp) ?_
        rw [codeF, hF, show upB c = false by simp [upB]; omega]; rfl
      refine CmpW.N ?_
      refine gos ?_
      exact ⟨f - 1, _, 0, by omega, fgts, i + 1, by omega, by omega, by rw [hF, show upB c = true by simp [upB]; omega]; rfl, rfl, rfl⟩
    · refine CmpW.N ?_
      rw [List.drop_of_length_le (by omega)] at hF
      refine gos ?_
      exact ⟨_, 0, fgts, hF, rfl, rfl⟩
  rintro e h ⟨hF, rfl, rfl⟩
  refine AC.go tab ?_
  refine gos ?_
  refine CmpW.s ?_
  refine gos ?_
  refine RetW.plain (by simp) ?_
  simp only [codeF, hF, Bool.true_and]
  congr 1
  congr 1
  rw [Bool.eq_iff_iff]; simp; omega
theorem point_does (m : Int) (t : TTab) (s : List UInt8) (hs : s.length < 4294967296) : Does Tryz.prog (GL m) 85 [.agg (tabC t), .str s] [] fun ae _ => ae = .ret (.bool (pointF t.dg s)) := by
  refine Does.bodyA tab Tryz.func85 rfl rfl ?_
  refine AC.step tab ?_
  refine gos ?_
  intro v1
  refine gos ?_
  refine AC.step tab ?_
  refine gos ?_
  refine CallW.pure (GOne_does m s hs) rfl rfl ?_
  cases h1 : oneF s with
  | false =>
    refine gos ?_
    refine RetW.plain (by simp) ?_
    simp [pointF, h1]
  | true =>
  refine gos ?_
  refine AC.step tab ?_
  refine gos ?_
  have dO := SetOne_does (GL m) t.dg.d0 t.dg.d1 t.dg.d2 t.dg.d3 t.dg.d4 t.dg.d5 t.dg.d6 t.dg.d7 t.dg.d8 t.dg.d9 s
  cases h2 : sonF [t.dg.d0, t.dg.d1, t.dg.d2, t.dg.d3, t.dg.d4, t.dg.d5, t.dg.d6, t.dg.d7, t.dg.d8, t.dg.d9] s with
  | none =>
    rw [h2] at dO
    refine CallW.pure dO rfl rfl ?_
    refine gos ?_
    refine AC.go tab ?_
    refine gos ?_
    refine RetW.plain (by simp) ?_
    simp [pointF, h1, TDig.list, h2]
  | some q =>
    obtain ⟨d, n⟩ := q
    rw [h2] at dO
    refine CallW.pure dO rfl rfl ?_
    refine gos ?_
    refine AC.go tab ?_
    refine gos ?_
    refine RetW.plain (by simp) ?_
    simp [pointF, h1, TDig.list, h2]
end Go.Proofs.YtjjppmbojcgdgaaGreatDoor

namespace Go.Proofs.YtjjppmbojcgdgaaGreatDoor
open Go Go.Abs
set_option linter.unusedVariables false
set_option linter.unusedSimpArgs false
def numL : Nat → Nat → List UInt8
  | 0, _ => []
  | k + 1, n => if n ≤ 127 then [UInt8.ofNat n] else UInt8.ofNat (n % 128 + 128) :: numL k (n / 128)
def numW (n : Int) : List UInt8 := numL 10 n.toNat
def textW (s : List UInt8) : List UInt8 := numW s.length ++ s
structure Rd where
  s : List UInt8
  p : Nat
  bad : Bool
def numG : Nat → Rd → Nat → Nat → Nat × Rd
  | 0, r, _, _ => (0, { r with bad := true })
  | k + 1, r, n, sh =>
    match r.s[r.p]? with
    | none => (0, { r with bad := true })
    | some b =>
      if 56 < sh then (0, { r with bad := true })
      else if b.toNat < 128 then
        if b = 0 ∧ 0 < sh then (0, { r with p := r.p + 1, bad := true }) else (n + b.toNat * 2 ^ sh, { r with p := r.p + 1 })
      else numG k { r with p := r.p + 1 } (n + b.toNat % 128 * 2 ^ sh) (sh + 7)
def numRd (r : Rd) : Nat × Rd := if r.bad then (0, r) else numG 10 r 0 0
def textRd (r : Rd) : List UInt8 × Rd :=
  let x := numRd r
  if x.2.bad = true ∨ x.2.s.length - x.2.p < x.1 then ([], { x.2 with bad := true })
  else ((x.2.s.drop x.2.p).take x.1, { x.2 with p := x.2.p + x.1 })
def countRd (most : Nat) (r : Rd) : Nat × Rd :=
  let x := numRd r
  if most < x.1 then (0, { x.2 with bad := true }) else x
def RdAt (r : Rd) (l : List UInt8) : Prop := r.bad = false ∧ r.p ≤ r.s.length ∧ r.s.drop r.p = l
def Rds {α : Type} (f : Rd → α × Rd) (w : List UInt8) (a : α) : Prop :=
  ∀ r post, RdAt r (w ++ post) → (f r).1 = a ∧ RdAt (f r).2 post ∧ (f r).2.s = r.s
def rtn {α : Type} (a : α) : Rd → α × Rd := fun r => (a, r)
def bnd {α β : Type} (f : Rd → α × Rd) (g : α → Rd → β × Rd) : Rd → β × Rd := fun r => g (f r).1 (f r).2
theorem rds_ret {α : Type} (a : α) : Rds (rtn a) [] a := fun r post h => ⟨rfl, h, rfl⟩
theorem rds_bnd {α β : Type} {f : Rd → α × Rd} {g : α → Rd → β × Rd} {w v : List UInt8} {a : α} {b : β} (h1 : Rds f w a) (h2 : Rds (g a) v b) : Rds (bnd f g) (w ++ v) b := by
  intro r post h
  obtain ⟨e1, A1, s1⟩ := h1 r (v ++ post) (by simpa using h)
  have h3 := h2 (f r).2 post A1
  simp only [bnd, e1]
  exact ⟨h3.1, h3.2.1, h3.2.2.trans s1⟩
theorem drop_cons {s : List UInt8} {p : Nat} {b : UInt8} {l : List UInt8} (h : s.drop p = b :: l) : s[p]? = some b ∧ s.drop (p + 1) = l ∧ p + 1 ≤ s.length := by
  have hl : p < s.length := by
    rcases Nat.lt_or_ge p s.length with h1 | h1
    · exact h1
    · rw [List.drop_eq_nil_of_le h1] at h; cases h
  have := List.drop_eq_getElem_cons hl
  rw [h] at this
  injection this with h1 h2
  exact ⟨by rw [List.getElem?_eq_getElem hl, h1], h2.symm, hl⟩
theorem numG_at : ∀ (k n acc sh : Nat) (r : Rd) (post : List UInt8), n < 2 ^ (7 * k) → 0 < k → sh + 7 * k ≤ 63 → (0 < sh → 0 < n) → RdAt r (numL k n ++ post) →
    (numG (k + 1) r acc sh).1 = acc + n * 2 ^ sh ∧ RdAt (numG (k + 1) r acc sh).2 post ∧ (numG (k + 1) r acc sh).2.s = r.s
  | 0, _, _, _, _, _, _, h0, _, _, _ => absurd h0 (by omega)
  | k + 1, n, acc, sh, r, post, hn, _, hs, hp, ha => by
    obtain ⟨hb, hl, hd⟩ := ha
    by_cases h1 : n ≤ 127
    · rw [numL, if_pos h1] at hd
      obtain ⟨e1, e2, e3⟩ := drop_cons (l := post) hd
      have hv : (UInt8.ofNat n).toNat = n := by rw [UInt8.toNat_ofNat']; omega
      rw [numG]
      simp only [e1]
      rw [if_neg (by omega), if_pos (by omega)]
      have h2 : ¬ (UInt8.ofNat n = 0 ∧ 0 < sh) := fun ⟨h3, h4⟩ => by
        have := congrArg UInt8.toNat h3
        have h5 := hp h4
        rw [hv] at this
        simp at this
        omega
      rw [if_neg h2, hv]
      exact ⟨rfl, ⟨hb, e3, e2⟩, rfl⟩
    · rw [numL, if_neg h1] at hd
      obtain ⟨e1, e2, e3⟩ := drop_cons (l := numL k (n / 128) ++ post) hd
      have hv : (UInt8.ofNat (n % 128 + 128)).toNat = n % 128 + 128 := by rw [UInt8.toNat_ofNat']; omega
      rw [numG]
      simp only [e1]
      rw [if_neg (by omega), if_neg (by omega), hv]
      have hk : 0 < k := by
        rcases Nat.eq_zero_or_pos k with h | h
        · subst h; simp at hn; omega
        · exact h
      have hn' : n / 128 < 2 ^ (7 * k) := by
        rw [Nat.div_lt_iff_lt_mul (by decide)]
        have : 7 * (k + 1) = 7 * k + 7 := by omega
        rw [this, Nat.pow_add] at hn
        exact hn
      have ih := numG_at k (n / 128) (acc + (n % 128 + 128) % 128 * 2 ^ sh) (sh + 7) { r with p := r.p + 1 } post hn' hk (by omega) (fun _ => by omega) ⟨hb, e3, e2⟩
      refine ⟨?_, ih.2⟩
      rw [ih.1]
      have h6 : (n % 128 + 128) % 128 = n % 128 := by omega
      rw [h6, Nat.pow_add, Nat.add_assoc]
      congr 1
      have h7 : n / 128 * (2 ^ sh * 2 ^ 7) = n / 128 * 128 * 2 ^ sh := by rw [Nat.mul_comm (2 ^ sh), ← Nat.mul_assoc]
      rw [h7, ← Nat.add_mul]
      congr 1
      omega
theorem numL_more : ∀ (k n : Nat), n < 2 ^ (7 * k) → 0 < k → numL (k + 1) n = numL k n
  | 0, _, _, h => absurd h (by omega)
  | k + 1, n, h, _ => by
    by_cases h1 : n ≤ 127
    · simp [numL, h1]
    · show (if n ≤ 127 then [UInt8.ofNat n] else UInt8.ofNat (n % 128 + 128) :: numL (k + 1) (n / 128)) = (if n ≤ 127 then [UInt8.ofNat n] else UInt8.ofNat (n % 128 + 128) :: numL k (n / 128))
      rw [if_neg h1, if_neg h1]
      congr 1
      have hk : 0 < k := by
        rcases Nat.eq_zero_or_pos k with h2 | h2
        · subst h2; simp at h; omega
        · exact h2
      refine numL_more k (n / 128) ?_ hk
      rw [Nat.div_lt_iff_lt_mul (by decide)]
      have : 7 * (k + 1) = 7 * k + 7 := by omega
      rw [this, Nat.pow_add] at h
      exact h
theorem num_reads {n : Int} (h0 : 0 ≤ n) (h1 : n < 2 ^ 63) : Rds numRd (numW n) n.toNat := by
  intro r post ha
  have hb := ha.1
  have hn : n.toNat < 2 ^ (7 * 9) := by
    have : (2 : Nat) ^ (7 * 9) = 9223372036854775808 := by decide
    have h2 : (2 : Int) ^ 63 = 9223372036854775808 := by decide
    omega
  rw [numW, numL_more 9 _ hn (by decide)] at ha
  have := numG_at 9 n.toNat 0 0 r post hn (by decide) (by decide) (fun h => absurd h (by decide)) ha
  rw [numRd, if_neg (by simp [hb])]
  simpa using this
theorem text_reads {s : List UInt8} (h : s.length < 2 ^ 63) : Rds textRd (textW s) s := by
  intro r post ha
  rw [textW, List.append_assoc] at ha
  obtain ⟨e1, A1, s1⟩ := num_reads (n := s.length) (by omega) (by exact_mod_cast h) r (s ++ post) ha
  obtain ⟨b1, l1, d1⟩ := A1
  have hl : (numRd r).2.s.length - (numRd r).2.p = s.length + post.length := by
    have := congrArg List.length d1
    simpa using this
  have e2 : (numRd r).1 = s.length := by simpa using e1
  have hN : ¬ ((numRd r).2.bad = true ∨ (numRd r).2.s.length - (numRd r).2.p < (numRd r).1) := by
    rw [b1, hl, e2]; simp
  have hT : textRd r = (((numRd r).2.s.drop (numRd r).2.p).take (numRd r).1, { (numRd r).2 with p := (numRd r).2.p + (numRd r).1 }) := by
    simp only [textRd]
    rw [if_neg hN]
  rw [hT, e2, d1]
  refine ⟨by simp, ⟨b1, ?_, ?_⟩, s1⟩
  · show (numRd r).2.p + s.length ≤ (numRd r).2.s.length
    omega
  · show (numRd r).2.s.drop ((numRd r).2.p + s.length) = post
    rw [← List.drop_drop, d1]
    simp
theorem count_reads {most : Nat} {n : Nat} (h : n ≤ most) (h1 : most < 2 ^ 63) : Rds (countRd most) (numW n) n := by
  intro r post ha
  obtain ⟨e1, A1, s1⟩ := num_reads (n := n) (by omega) (by have : (2:Int)^63 = ((2 ^ 63 : Nat) : Int) := by decide
                                                           omega) r post ha
  have e2 : (numRd r).1 = n := by simpa using e1
  simp only [countRd]
  rw [if_neg (by omega)]
  exact ⟨e2, A1, s1⟩
def listG {α : Type} (one : Rd → α × Rd) : Nat → Rd → List α × Rd
  | 0, r => ([], r)
  | n + 1, r => if r.bad then ([], r) else ((one r).1 :: (listG one n (one r).2).1, (listG one n (one r).2).2)
def listRd {α : Type} (one : Rd → α × Rd) (r : Rd) : List α × Rd := listG one (countRd 65536 r).1 (countRd 65536 r).2
def listW {α : Type} (w : α → List UInt8) (l : List α) : List UInt8 := numW l.length ++ l.flatMap w
end Go.Proofs.YtjjppmbojcgdgaaGreatDoor

namespace Go.Proofs.YtjjppmbojcgdgaaGreatDoor
open Go Go.Abs
set_option linter.unusedVariables false
set_option linter.unusedSimpArgs false
def errMany : Int := 4
def errForm : Int := 1
def txtW (x : TTxt) : List UInt8 := numW x.cat ++ textW x.text
def txtRd : Rd → TTxt × Rd := bnd numRd fun c => bnd textRd fun s => rtn ⟨(c : Int), s⟩
def rowW (x : TRow) : List UInt8 := numW x.mag ++ listW txtW x.texts
def rowRd : Rd → TRow × Rd := bnd numRd fun m => bnd (listRd txtRd) fun l => rtn ⟨(m : Int), l⟩
def untW (x : TUnt) : List UInt8 := textW x.name ++ listW txtW x.texts
def untRd : Rd → TUnt × Rd := bnd textRd fun m => bnd (listRd txtRd) fun l => rtn ⟨m, l⟩
def curW (x : TCur) : List UInt8 := textW x.code ++ (textW x.symbol ++ (textW x.narrow ++ (listW txtW x.names ++ (numW x.digits ++ (numW x.inc ++ (numW x.cashDigits ++ numW x.cashInc))))))
def curRd : Rd → TCur × Rd := bnd textRd fun a => bnd textRd fun b => bnd textRd fun c => bnd (listRd txtRd) fun n => bnd numRd fun d => bnd numRd fun e => bnd numRd fun f => bnd numRd fun g => rtn ⟨a, b, c, n, (d : Int), (e : Int), (f : Int), (g : Int)⟩
def encF (t : TTab) : List UInt8 := textW t.dg.d0 ++ (textW t.dg.d1 ++ (textW t.dg.d2 ++ (textW t.dg.d3 ++ (textW t.dg.d4 ++ (textW t.dg.d5 ++ (textW t.dg.d6 ++ (textW t.dg.d7 ++ (textW t.dg.d8 ++ (textW t.dg.d9 ++ (textW t.minus ++ (textW t.plus ++ (textW t.percent ++ (textW t.permille ++ (textW t.point ++ (textW t.comma ++ (textW t.decimal ++ (textW t.per ++ (textW t.money ++ (textW t.account ++ (textW t.rules ++ (textW t.before.cur ++ (textW t.before.num ++ (textW t.before.ins ++ (textW t.after.cur ++ (textW t.after.num ++ (textW t.after.ins ++ (numW t.minGroup ++ (listW rowW t.short ++ (listW rowW t.long ++ (listW rowW t.mshort ++ (listW curW t.curs ++ (listW untW t.units ++ (listW txtW t.munit)))))))))))))))))))))))))))))))))
def tabRd : Rd → TTab × Rd := bnd textRd fun xdg_d0 => bnd textRd fun xdg_d1 => bnd textRd fun xdg_d2 => bnd textRd fun xdg_d3 => bnd textRd fun xdg_d4 => bnd textRd fun xdg_d5 => bnd textRd fun xdg_d6 => bnd textRd fun xdg_d7 => bnd textRd fun xdg_d8 => bnd textRd fun xdg_d9 => bnd textRd fun xminus => bnd textRd fun xplus => bnd textRd fun xpercent => bnd textRd fun xpermille => bnd textRd fun xpoint => bnd textRd fun xcomma => bnd textRd fun xdecimal => bnd textRd fun xper => bnd textRd fun xmoney => bnd textRd fun xaccount => bnd textRd fun xrules => bnd textRd fun xbefore_cur => bnd textRd fun xbefore_num => bnd textRd fun xbefore_ins => bnd textRd fun xafter_cur => bnd textRd fun xafter_num => bnd textRd fun xafter_ins => bnd numRd fun mg => bnd (listRd rowRd) fun sh => bnd (listRd rowRd) fun lo => bnd (listRd rowRd) fun ms => bnd (listRd curRd) fun cu => bnd (listRd untRd) fun un => bnd (listRd txtRd) fun mu => rtn ⟨⟨xdg_d0, xdg_d1, xdg_d2, xdg_d3, xdg_d4, xdg_d5, xdg_d6, xdg_d7, xdg_d8, xdg_d9⟩, xminus, xplus, xpercent, xpermille, xpoint, xcomma, (mg : Int), xdecimal, xper, xmoney, xaccount, xrules, sh, lo, ms, cu, un, mu, ⟨xbefore_cur, xbefore_num, xbefore_ins⟩, ⟨xafter_cur, xafter_num, xafter_ins⟩⟩
def tab0 : TTab := ⟨⟨[], [], [], [], [], [], [], [], [], []⟩, [], [], [], [], [], [], 0, [], [], [], [], [], [], [], [], [], [], [], ⟨[], [], []⟩, ⟨[], [], []⟩⟩
def decF (s : List UInt8) : TTab × Int :=
  if 65536 < s.length then (tab0, errMany)
  else if (tabRd ⟨s, 0, false⟩).2.bad = true ∨ (tabRd ⟨s, 0, false⟩).2.p ≠ s.length then (tab0, errForm) else ((tabRd ⟨s, 0, false⟩).1, 0)
def posN (n : Int) : Prop := 0 ≤ n ∧ n < 2 ^ 63
def posT (l : List TTxt) : Prop := ∀ x ∈ l, posN x.cat
def posR (l : List TRow) : Prop := ∀ x ∈ l, posN x.mag ∧ posT x.texts
def TTab.pos (t : TTab) : Prop := posN t.minGroup ∧ posR t.short ∧ posR t.long ∧ posR t.mshort ∧ posT t.munit ∧
  (∀ c ∈ t.curs, posT c.names ∧ posN c.digits ∧ posN c.inc ∧ posN c.cashDigits ∧ posN c.cashInc) ∧ ∀ u ∈ t.units, posT u.texts
theorem len_numW (n : Int) : 1 ≤ (numW n).length := by
  rw [numW, numL]
  split <;> simp
theorem len_numL : ∀ (k n : Nat), (numL k n).length ≤ k
  | 0, _ => by simp [numL]
  | k + 1, n => by
    rw [numL]
    split
    · simp
    · simpa using len_numL k _
theorem len_flat {α : Type} {w : α → List UInt8} (hw : ∀ x, 1 ≤ (w x).length) : ∀ l : List α, l.length ≤ (l.flatMap w).length
  | [] => by simp
  | x :: l => by
    have := len_flat hw l
    have := hw x
    simp only [List.flatMap_cons, List.length_append, List.length_cons]
    omega
theorem txtW_pos (x : TTxt) : 1 ≤ (txtW x).length := by have := len_numW x.cat; rw [txtW, List.length_append]; omega
theorem rowW_pos (x : TRow) : 1 ≤ (rowW x).length := by have := len_numW x.mag; rw [rowW, List.length_append]; omega
theorem textW_pos (s : List UInt8) : 1 ≤ (textW s).length := by have := len_numW s.length; rw [textW, List.length_append]; omega
theorem untW_pos (x : TUnt) : 1 ≤ (untW x).length := by have := textW_pos x.name; rw [untW, List.length_append]; omega
theorem curW_pos (x : TCur) : 1 ≤ (curW x).length := by have := textW_pos x.code; rw [curW, List.length_append]; omega
section
attribute [local irreducible] Rds bnd rtn textRd numRd textW numW listRd listW
end
end Go.Proofs.YtjjppmbojcgdgaaGreatDoor
