/- Tables; small questions. -/
import Derived.Test.YtijdnjngfkohfaaGreatDoorJ16
import Derived.Test.YtijdnjngfkohfaaGreatDoorJ08
set_option linter.unusedVariables false
set_option linter.unusedSimpArgs false
set_option maxRecDepth 100000
set_option maxHeartbeats 4000000

namespace Go.Proofs.YtijdnjngfkohfaaGreatDoor
open Go Go.Abs
attribute [local irreducible] DrawW CallW RetW AC Does CmpW
variable {G : Globs}
def okR (x : Rg) : Bool := decide (x.1 ≤ x.2)
def mergR (out : List Rg) (x : Rg) : List Rg := match out.getLast? with
  | some y => if x.1.val ≤ y.2.val + 1 then out.dropLast ++ [(y.1, if y.2.val < x.2.val then x.2 else y.2)] else out ++ [x]
  | none => [x]
def madeR (l : List Rg) : List Rg := (sortRg (l.filter okR)).foldl mergR []
theorem mergR_len (out : List Rg) (x : Rg) : (mergR out x).length ≤ out.length + 1 := by
  unfold mergR
  split
  · split
    · simp
      try omega
    · simp
  · simp
theorem foldM_len : ∀ (l out : List Rg), (l.foldl mergR out).length ≤ out.length + l.length
  | [], out => by simp
  | x :: l, out => by
    have := foldM_len l (mergR out x)
    have := mergR_len out x
    simp only [List.foldl_cons, List.length_cons]
    omega
theorem madeR_len (l : List Rg) : (madeR l).length ≤ l.length := by
  have h1 := foldM_len (sortRg (l.filter okR)) []
  have h2 := sortRg_length (l.filter okR)
  have h3 := List.length_filter_le okR l
  unfold madeR
  simp only [List.length_nil] at h1
  omega
def rgEs (l : List Rg) : List (List AV) := l.map encG
@[simp] theorem rgEs_len (l : List Rg) : (rgEs l).length = l.length := by simp [rgEs]
theorem rgEs_closed : ∀ l, closedLL (rgEs l) = true
  | [] => rfl
  | x :: xs => by simp [rgEs, closedLL, encG, closedL, closed]; exact rgEs_closed xs
theorem rgEs_two (l : List Rg) : ∀ y ∈ rgEs l, y.length = 2 := fun y hy => by
  obtain ⟨z, _, rfl⟩ := List.mem_map.1 hy; rfl
theorem rgEs_get {l : List Rg} {i : Nat} {x : Rg} (h : l[i]? = some x) : (rgEs l)[i]? = some (encG x) := by simp [rgEs, h]
theorem drop_cons' {α : Type} {l : List α} {i : Nat} {x : α} (h : l[i]? = some x) : l.drop i = x :: l.drop (i + 1) := by
  obtain ⟨h1, h2⟩ := List.getElem?_eq_some_iff.1 h
  rw [List.drop_eq_getElem_cons h1, h2]
theorem mergR_snoc (a : List Rg) (y x : Rg) : mergR (a ++ [y]) x = if x.1.val ≤ y.2.val + 1 then a ++ [(y.1, if y.2.val < x.2.val then x.2 else y.2)] else a ++ [y] ++ [x] := by
  unfold mergR; simp
theorem rgEs_last (a : List Rg) (y : Rg) : (rgEs (a ++ [y]))[a.length]? = some (encG y) := rgEs_get (by simp)
theorem made_does (l : List Rg) (hs : l.length < 65536) : Does Tryz.prog G 20 [.fsl (rgEs l)] [] fun ae _ => ae = .ret (.fsl (rgEs (madeR l))) := by
  refine Does.bodyA tab Tryz.func20 rfl rfl ?_
  refine AC.step tab ?_
  refine gos ?_
  refine AC.step tab ?_
  refine gos ?_
  refine AC.own 3 145 2 rfl (by omega) fun v0 => ?_
  refine AC.cutF tab (fun e h => ∃ va, e = [.any, .any, .nils, .sl 0 va] ++ List.replicate 74 .any ∧ h = [some ⟨va, 145, 2, rgEs (l.filter okR)⟩]) ?_ ?_
  · refine gos ?_
    rw [rgEs_len]
    refine AC.loopC tab (fun f e h => ∃ (i va : Nat) (acc : List Rg), f + i = l.length + 1 ∧ i ≤ l.length ∧ acc.length ≤ i ∧ l.filter okR = acc ++ (l.drop i).filter okR ∧ e = [.any, .any, .nils, .sl 0 va, .any, .any, .any, .any, .any, .any, .fsl (rgEs l), .int .i64 l.length, .int .i64 i] ++ List.replicate 65 .any ∧ h = [some ⟨va, 145, 2, rgEs acc⟩])
      (l.length + 1) ⟨_, fgts, 0, v0, [], by omega, by omega, by simp, rfl, rfl, rfl⟩ ?_
    rintro f e h ⟨i, va, acc, hf, hi, hacc, hF, rfl, rfl⟩
    refine gos ?_
    by_cases hlt : i < l.length
    · obtain ⟨x, hx⟩ : ∃ x, l[i]? = some x := ⟨_, List.getElem?_eq_getElem hlt⟩
      rw [drop_cons' hx] at hF
      have hx1 := x.1.isLt
      have hx2 := x.2.isLt
      refine CmpW.T ?_
      refine gos ?_
      refine And.intro (rgEs_two l) (And.intro (by omega) ⟨encG x, rgEs_get hx, ?_⟩)
      (repeat (first | refine gof ?_ | refine fun (vv : Nat) => ?_))
      simp only [show ∀ a : Nat, (if (0 : Int) > (a : Int) then (0 : Int) else (a : Int)) = a from fun a => if_neg (by omega), show (if (1114111 : Int) < ((x.2.val : Nat) : Int) then (1114111 : Int) else (x.2.val : Int)) = x.2.val from if_neg (by omega)]
      by_cases hok : x.1 ≤ x.2
      · rw [List.filter_cons_of_pos (by simpa [okR] using hok)] at hF
        have hok2 : x.1.val ≤ x.2.val := hok
        refine CmpW.T ?_
        (repeat (first | refine gof ?_ | refine fun (vv : Nat) => ?_))
        exact ⟨f - 1, _, 1, by omega, fgts, i + 1, _, acc ++ [x], by omega, by omega, by simp; omega, by rw [hF]; simp, rfl, by simp [rgEs, encG]⟩
      · rw [List.filter_cons_of_neg (by simpa [okR] using hok)] at hF
        have hok2 : ¬ x.1.val ≤ x.2.val := hok
        refine CmpW.N ?_
        (repeat (first | refine gof ?_ | refine fun (vv : Nat) => ?_))
        exact ⟨f - 1, _, 1, by omega, fgts, i + 1, _, acc, by omega, by omega, by omega, hF, rfl, rfl⟩
    · refine CmpW.N ?_
      refine gos ?_
      rw [List.drop_of_length_le (by omega)] at hF
      simp only [List.filter_nil, List.append_nil] at hF
      rw [hF]
      exact ⟨_, 1, fgts, va, rfl, rfl⟩
  rintro e h ⟨va, rfl, rfl⟩
  obtain ⟨q, hq⟩ : ∃ q, q = l.filter okR := ⟨_, rfl⟩
  have hql : q.length ≤ l.length := by rw [hq]; exact List.length_filter_le okR l
  have hM : madeR l = (sortRg q).foldl mergR [] := by rw [hq]; rfl
  rw [← hq, hM]
  refine AC.step tab ?_
  refine gos ?_
  refine CallW.meth 0 (sortR_does q va (by omega)) rfl rfl rfl (rgEs_closed _) (rgs_closed _ _) rfl ?_
  have hsl := sortRg_length q
  obtain ⟨p, hp⟩ : ∃ p, p = sortRg q := ⟨_, rfl⟩
  rw [← hp] at hsl ⊢
  refine gos ?_
  refine AC.step tab ?_
  refine gos ?_
  refine AC.own 6 145 2 rfl (by omega) fun v1 => ?_
  refine AC.cutF tab (fun e h => ∃ vb, e = [.any, .any, .nils, .any, .any, .any, .sl 1 vb] ++ List.replicate 71 .any ∧ h = [some (rgs va p.toArray), some ⟨vb, 145, 2, rgEs (p.foldl mergR [])⟩]) ?_ ?_
  · refine gos ?_
    have e1 : (rgs va p.toArray).es.length = p.length := by simp
    rw [e1]
    refine AC.loopC tab (fun f e h => ∃ (i vb : Nat) (acc : List Rg), f + i = p.length + 1 ∧ i ≤ p.length ∧ acc.length ≤ i ∧ p.foldl mergR [] = (p.drop i).foldl mergR acc ∧
        e = [.any, .any, .nils, .any, .any, .any, .sl 1 vb] ++ List.replicate 29 .any ++ [.sl 0 va, .int .i64 p.length, .int .i64 i] ++ List.replicate 39 .any ∧ h = [some (rgs va p.toArray), some ⟨vb, 145, 2, rgEs acc⟩])
      (p.length + 1) ⟨_, fgts, 0, v1, [], by omega, by omega, by simp, rfl, rfl, rfl⟩ ?_
    rintro f e h ⟨i, vb, acc, hf, hi, hacc, hF, rfl, rfl⟩
    refine gos ?_
    by_cases hlt : i < p.length
    · obtain ⟨x, hx⟩ : ∃ x, p[i]? = some x := ⟨_, List.getElem?_eq_getElem hlt⟩
      rw [drop_cons' hx] at hF
      simp only [List.foldl_cons] at hF
      have hx1 := x.1.isLt
      have hx2 := x.2.isLt
      refine CmpW.T ?_
      refine gos ?_
      refine And.intro (And.intro (by omega) (by rw [e1]; omega)) ?_
      (repeat (first | refine gof ?_ | refine fun (vv : Nat) => ?_))
      refine ⟨encG x, by simp [rgs, hx], ?_⟩
      (repeat (first | refine gof ?_ | refine fun (vv : Nat) => ?_))
      refine DrawW.L ?_
      (repeat (first | refine gof ?_ | refine fun (vv : Nat) => ?_))
      rcases List.eq_nil_or_concat acc with rfl | ⟨a0, y, ha⟩
      · refine CmpW.N ?_
        (repeat (first | refine gof ?_ | refine fun (vv : Nat) => ?_))
        exact ⟨f - 1, _, 2, by omega, fgts, i + 1, _, [x], by omega, by omega, by simp, hF, rfl, rfl⟩
      · rw [List.concat_eq_append] at ha
        subst ha
        rw [mergR_snoc] at hF
        have hy2 := y.2.isLt
        have e3 : (rgEs (a0 ++ [y])).length = a0.length + 1 := by simp
        have e2 : ((rgEs (a0 ++ [y])).length : Int) - 1 = (a0.length : Int) := by omega
        have hacc2 : a0.length + 1 ≤ i := by simpa using hacc
        refine CmpW.T ?_
        (repeat (first | refine gof ?_ | refine fun (vv : Nat) => ?_))
        rw [e2]
        refine And.intro (And.intro (by omega) (by simp; omega)) ?_
        (repeat (first | refine gof ?_ | refine fun (vv : Nat) => ?_))
        refine ⟨encG y, by rw [Int.toNat_natCast]; exact rgEs_last a0 y, ?_⟩
        (repeat (first | refine gof ?_ | refine fun (vv : Nat) => ?_))
        rw [show IntKind.i32.wrap ((y.2.val : Int) + 1) = ((y.2.val + 1 : Nat) : Int) by rw [wrap_i32 (by omega) (by omega)]; simp]
        (repeat (first | refine gof ?_ | refine fun (vv : Nat) => ?_))
        by_cases hm : x.1.val ≤ y.2.val + 1
        · rw [if_pos hm] at hF
          refine CmpW.T ?_
          (repeat (first | refine gof ?_ | refine fun (vv : Nat) => ?_))
          refine DrawW.L ?_
          (repeat (first | refine gof ?_ | refine fun (vv : Nat) => ?_))
          simp only [e3, show ((a0.length + 1 : Nat) : Int) - 1 = (a0.length : Int) by omega]
          refine And.intro (And.intro (by omega) (by omega)) ?_
          (repeat (first | refine gof ?_ | refine fun (vv : Nat) => ?_))
          refine ⟨encG y, by rw [Int.toNat_natCast]; exact rgEs_last a0 y, ?_⟩
          (repeat (first | refine gof ?_ | refine fun (vv : Nat) => ?_))
          refine And.intro (And.intro (by omega) (by simp; omega)) ?_
          (repeat (first | refine gof ?_ | refine fun (vv : Nat) => ?_))
          refine ⟨encG y, by rw [Int.toNat_natCast]; exact rgEs_last a0 y, ?_⟩
          (repeat (first | refine gof ?_ | refine fun (vv : Nat) => ?_))
          refine ⟨f - 1, _, 2, by omega, fgts, i + 1, _, _, by omega, by omega, ?_, hF, rfl, ?_⟩
          · simp; omega
          by_cases hyx : y.2.val < x.2.val
          · simp [hyx, rgEs, encG]
          · simp [hyx, rgEs, encG]
        · rw [if_neg hm] at hF
          refine CmpW.N ?_
          (repeat (first | refine gof ?_ | refine fun (vv : Nat) => ?_))
          exact ⟨f - 1, _, 2, by omega, fgts, i + 1, _, a0 ++ [y] ++ [x], by omega, by omega, by simp at hacc ⊢; omega, hF, rfl, by simp [rgEs, encG]⟩
    · refine CmpW.N ?_
      refine gos ?_
      rw [List.drop_of_length_le (by omega)] at hF
      simp only [List.foldl_nil] at hF
      rw [hF]
      exact ⟨_, 2, fgts, vb, rfl, rfl⟩
  rintro e h ⟨vb, rfl, rfl⟩
  refine AC.go tab ?_
  refine gos ?_
  refine RetW.wk (r' := .fsl (rgEs (p.foldl mergR []))) (by simp) ?_ (Wk.row (k := 0) (i := 1) (o := ⟨vb, 145, 2, rgEs (p.foldl mergR [])⟩) rfl rfl rfl (rgEs_closed _)) ?_ <;> rfl
def mkR (a b : Nat) : Rg := (Fin.ofNat 1114112 a, Fin.ofNat 1114112 b)
theorem encG_mk {a b : Nat} (ha : a < 1114112) (hb : b < 1114112) : encG (mkR a b) = [.int .i32 (a : Int), .int .i32 (b : Int)] := by
  simp only [encG, mkR, Fin.val_ofNat, Nat.mod_eq_of_lt ha, Nat.mod_eq_of_lt hb]
def notS (st : List Rg × Nat) (x : Rg) : List Rg × Nat := (if st.2 < x.1.val then st.1 ++ [mkR st.2 (x.1.val - 1)] else st.1, x.2.val + 1)
def notR (c : List Rg) : List Rg := if (c.foldl notS ([], 0)).2 ≤ 1114111 then (c.foldl notS ([], 0)).1 ++ [mkR (c.foldl notS ([], 0)).2 1114111] else (c.foldl notS ([], 0)).1
theorem notS_len : ∀ (l : List Rg) (st : List Rg × Nat), (l.foldl notS st).1.length ≤ st.1.length + l.length
  | [], st => by simp
  | x :: l, st => by
    have h := notS_len l (notS st x)
    have h2 : (notS st x).1.length ≤ st.1.length + 1 := by unfold notS; simp only; split <;> simp
    simp only [List.foldl_cons, List.length_cons]
    omega
theorem notR_len (c : List Rg) : (notR c).length ≤ c.length + 1 := by
  have h := notS_len c ([], 0)
  simp only [List.length_nil] at h
  unfold notR
  split
  · rw [List.length_append]; simp only [List.length_cons, List.length_nil]; omega
  · omega
theorem cnot_does (l : List Rg) (hs : l.length < 100000) : Does Tryz.prog G 231 [.fsl (rgEs l)] [] fun ae _ => ae = .ret (.fsl (rgEs (notR l))) := by
  refine Does.bodyA tab Tryz.func231 rfl rfl ?_
  refine AC.step tab ?_
  refine gos ?_
  refine AC.step tab ?_
  refine gos ?_
  refine AC.own 3 145 2 rfl (by omega) fun v0 => ?_
  refine AC.step tab ?_
  refine gos ?_
  obtain ⟨R, hR⟩ : ∃ R, R = l.foldl notS ([], 0) := ⟨_, rfl⟩
  have hN : notR l = if R.2 ≤ 1114111 then R.1 ++ [mkR R.2 1114111] else R.1 := by rw [hR]; rfl
  rw [hN]
  refine AC.cutF tab (fun e h => ∃ va, R.2 ≤ 1114112 ∧ R.1.length ≤ l.length ∧ e = [.any, .any, .nils, .sl 0 va, .int .i32 R.2] ++ List.replicate 32 .any ∧ h = [some ⟨va, 145, 2, rgEs R.1⟩]) ?_ ?_
  · refine gos ?_
    rw [rgEs_len]
    refine AC.loopC tab (fun f e h => ∃ (i va : Nat) (st : List Rg × Nat), f + i = l.length + 1 ∧ i ≤ l.length ∧ st.1.length ≤ i ∧ st.2 ≤ 1114112 ∧ R = (l.drop i).foldl notS st ∧
        e = [.any, .any, .nils, .sl 0 va, .int .i32 st.2, .any, .any, .fsl (rgEs l), .int .i64 l.length, .int .i64 i] ++ List.replicate 27 .any ∧ h = [some ⟨va, 145, 2, rgEs st.1⟩])
      (l.length + 1) ⟨_, fgts, 0, v0, ([], 0), by omega, by omega, by simp, by simp, hR, rfl, rfl⟩ ?_
    rintro f e h ⟨i, va, ⟨acc, nx⟩, hf, hi, hacc, hnx, hF, rfl, rfl⟩
    simp only at hacc hnx
    refine gos ?_
    by_cases hlt : i < l.length
    · obtain ⟨x, hx⟩ : ∃ x, l[i]? = some x := ⟨_, List.getElem?_eq_getElem hlt⟩
      rw [drop_cons' hx] at hF
      simp only [List.foldl_cons, notS] at hF
      have hx1 := x.1.isLt
      have hx2 := x.2.isLt
      refine CmpW.T ?_
      refine gos ?_
      refine And.intro (rgEs_two l) (And.intro (by omega) ⟨encG x, rgEs_get hx, ?_⟩)
      (repeat (first | refine gof ?_ | refine fun (vv : Nat) => ?_))
      by_cases hlo : nx < x.1.val
      · rw [if_pos hlo] at hF
        refine CmpW.T ?_
        (repeat (first | refine gof ?_ | refine fun (vv : Nat) => ?_))
        rw [show IntKind.i32.wrap ((x.1.val : Int) - 1) = ((x.1.val - 1 : Nat) : Int) by rw [wrap_i32 (by omega) (by omega)]; omega]
        (repeat (first | refine gof ?_ | refine fun (vv : Nat) => ?_))
        rw [show IntKind.i32.wrap ((x.2.val : Int) + 1) = ((x.2.val + 1 : Nat) : Int) by rw [wrap_i32 (by omega) (by omega)]; omega]
        (repeat (first | refine gof ?_ | refine fun (vv : Nat) => ?_))
        exact ⟨f - 1, _, 1, by omega, fgts, i + 1, _, _, by omega, by omega, by simp; omega, by simp; omega, hF, rfl, by simp [rgEs, encG_mk (show nx < 1114112 by omega) (show x.1.val - 1 < 1114112 by omega)]⟩
      · rw [if_neg hlo] at hF
        refine CmpW.N ?_
        (repeat (first | refine gof ?_ | refine fun (vv : Nat) => ?_))
        rw [show IntKind.i32.wrap ((x.2.val : Int) + 1) = ((x.2.val + 1 : Nat) : Int) by rw [wrap_i32 (by omega) (by omega)]; omega]
        (repeat (first | refine gof ?_ | refine fun (vv : Nat) => ?_))
        exact ⟨f - 1, _, 1, by omega, fgts, i + 1, _, _, by omega, by omega, by simp; omega, by simp; omega, hF, rfl, rfl⟩
    · refine CmpW.N ?_
      refine gos ?_
      rw [List.drop_of_length_le (by omega)] at hF
      simp only [List.foldl_nil] at hF
      rw [hF]
      exact ⟨_, 1, fgts, va, hnx, by simp; omega, rfl, rfl⟩
  rintro e h ⟨va, hn, hl, rfl, rfl⟩
  refine AC.cutF tab (fun e h => ∃ vb, e = [.any, .any, .nils, .sl 0 vb] ++ List.replicate 33 .any ∧ h = [some ⟨vb, 145, 2, rgEs (if R.2 ≤ 1114111 then R.1 ++ [mkR R.2 1114111] else R.1)⟩]) ?_ ?_
  · refine gos ?_
    by_cases ht : R.2 ≤ 1114111
    · rw [if_pos ht]
      refine CmpW.T ?_
      (repeat (first | refine gof ?_ | refine fun (vv : Nat) => ?_))
      exact ⟨_, 1, fgts, _, rfl, by simp [rgEs, encG_mk (show R.2 < 1114112 by omega) (show 1114111 < 1114112 by omega)]⟩
    · rw [if_neg ht]
      refine CmpW.N ?_
      (repeat (first | refine gof ?_ | refine fun (vv : Nat) => ?_))
      exact ⟨_, 1, fgts, va, rfl, rfl⟩
  rintro e h ⟨vb, rfl, rfl⟩
  refine AC.go tab ?_
  refine gos ?_
  refine RetW.wk (r' := .fsl (rgEs (if R.2 ≤ 1114111 then R.1 ++ [mkR R.2 1114111] else R.1))) (by simp) ?_ (Wk.row (k := 0) (i := 0) (o := ⟨vb, 145, 2, rgEs (if R.2 ≤ 1114111 then R.1 ++ [mkR R.2 1114111] else R.1)⟩) rfl rfl rfl (rgEs_closed _)) ?_ <;> rfl
end Go.Proofs.YtijdnjngfkohfaaGreatDoor

namespace Go.Proofs.YtijdnjngfkohfaaGreatDoor
open Go Go.Abs
attribute [local irreducible] DrawW CallW RetW AC Does CmpW
structure TTxt where
  cat : Int
  text : List UInt8
structure TRow where
  mag : Int
  texts : List TTxt
structure TCur where
  code : List UInt8
  symbol : List UInt8
  narrow : List UInt8
  names : List TTxt
  digits : Int
  inc : Int
  cashDigits : Int
  cashInc : Int
structure TUnt where
  name : List UInt8
  texts : List TTxt
structure TSpc where
  cur : List UInt8
  num : List UInt8
  ins : List UInt8
structure TDig where
  d0 : List UInt8
  d1 : List UInt8
  d2 : List UInt8
  d3 : List UInt8
  d4 : List UInt8
  d5 : List UInt8
  d6 : List UInt8
  d7 : List UInt8
  d8 : List UInt8
  d9 : List UInt8
structure TTab where
  dg : TDig
  minus : List UInt8
  plus : List UInt8
  percent : List UInt8
  permille : List UInt8
  point : List UInt8
  comma : List UInt8
  minGroup : Int
  decimal : List UInt8
  per : List UInt8
  money : List UInt8
  account : List UInt8
  rules : List UInt8
  short : List TRow
  long : List TRow
  mshort : List TRow
  curs : List TCur
  units : List TUnt
  munit : List TTxt
  before : TSpc
  after : TSpc
def TDig.list (d : TDig) : List (List UInt8) := [d.d0, d.d1, d.d2, d.d3, d.d4, d.d5, d.d6, d.d7, d.d8, d.d9]
def TDig.cells (d : TDig) : List AV := [.str d.d0, .str d.d1, .str d.d2, .str d.d3, .str d.d4, .str d.d5, .str d.d6, .str d.d7, .str d.d8, .str d.d9]
def encT (t : TTxt) : List AV := [.int .i64 t.cat, .str t.text]
def txtL (l : List TTxt) : AV := .fsl (l.map encT)
def encR (r : TRow) : List AV := [.int .i64 r.mag, txtL r.texts]
def rowL (l : List TRow) : AV := .fsl (l.map encR)
def encCu (c : TCur) : List AV := [.str c.code, .str c.symbol, .str c.narrow, txtL c.names, .int .i64 c.digits, .int .i64 c.inc, .int .i64 c.cashDigits, .int .i64 c.cashInc]
def curL (l : List TCur) : AV := .fsl (l.map encCu)
def encU (u : TUnt) : List AV := [.str u.name, txtL u.texts]
def untL (l : List TUnt) : AV := .fsl (l.map encU)
def TSpc.cells (x : TSpc) : List AV := [.str x.cur, .str x.num, .str x.ins]
def tabC (t : TTab) : List AV := [.str t.dg.d0, .str t.dg.d1, .str t.dg.d2, .str t.dg.d3, .str t.dg.d4, .str t.dg.d5, .str t.dg.d6, .str t.dg.d7, .str t.dg.d8, .str t.dg.d9, .str t.minus, .str t.plus, .str t.percent, .str t.permille, .str t.point, .str t.comma,
  .int .i64 t.minGroup, .str t.decimal, .str t.per, .str t.money, .str t.account, .str t.rules, rowL t.short, rowL t.long, rowL t.mshort, curL t.curs, untL t.units, txtL t.munit, .str t.before.cur, .str t.before.num, .str t.before.ins, .str t.after.cur, .str t.after.num, .str t.after.ins]
theorem encT_two (l : List TTxt) : ∀ y ∈ l.map encT, y.length = 2 := fun y hy => by obtain ⟨z, _, rfl⟩ := List.mem_map.1 hy; rfl
theorem encR_two (l : List TRow) : ∀ y ∈ l.map encR, y.length = 2 := fun y hy => by obtain ⟨z, _, rfl⟩ := List.mem_map.1 hy; rfl
theorem encU_two (l : List TUnt) : ∀ y ∈ l.map encU, y.length = 2 := fun y hy => by obtain ⟨z, _, rfl⟩ := List.mem_map.1 hy; rfl
theorem encCu_eight (l : List TCur) : ∀ y ∈ l.map encCu, y.length = 8 := fun y hy => by obtain ⟨z, _, rfl⟩ := List.mem_map.1 hy; rfl
theorem map_get {α : Type} {f : α → List AV} {l : List α} {i : Nat} {x : α} (h : l[i]? = some x) : (l.map f)[i]? = some (f x) := by simp [h]
def nameF (s : List UInt8) : Bool := decide (s ≠ [] ∧ s.length ≤ 60) && rightF s
def maybeF (s : List UInt8) : Bool := decide (s = []) || nameF s
def inF (n lo hi : Int) : Bool := decide (lo ≤ n ∧ n ≤ hi)
def upB (c : UInt8) : Bool := decide (65 ≤ c.toNat ∧ c.toNat ≤ 90)
def codeF (s : List UInt8) : Bool := s.all upB && decide (s.length = 3)
def pointF (d : TDig) (s : List UInt8) : Bool := oneF s && (sonF d.list s).isNone
theorem vname_does (m : Int) (s : List UInt8) (hs : s.length < 4294967296) : Does Tryz.prog (GL m) 81 [.str s] [] fun ae _ => ae = .ret (.bool (nameF s)) := by
  refine Does.body tab Tryz.func81 rfl rfl ?_
  refine gos ?_
  by_cases h0 : s = []
  · refine CmpW.f (by simpa using h0) ?_
    refine gos ?_
    refine RetW.plain (by simp) ?_
    simp [nameF, h0]
  refine CmpW.t (by simpa using h0) ?_
  refine gos ?_
  by_cases h1 : s.length ≤ 60
  · refine CmpW.T ?_
    refine gos ?_
    refine CallW.pure (Right_does m s hs) rfl rfl ?_
    refine gos ?_
    refine RetW.plain (by simp) ?_
    simp [nameF, h0, h1]
  · refine CmpW.N ?_
    refine gos ?_
    refine RetW.plain (by simp) ?_
    simp [nameF, h1]
theorem maybe_does (m : Int) (s : List UInt8) (hs : s.length < 4294967296) : Does Tryz.prog (GL m) 168 [.str s] [] fun ae _ => ae = .ret (.bool (maybeF s)) := by
  refine Does.body tab Tryz.func168 rfl rfl ?_
  refine gos ?_
  by_cases h0 : s = []
  · refine CmpW.t (by simpa using h0) ?_
    refine gos ?_
    refine RetW.plain (by simp) ?_
    simp [maybeF, h0]
  refine CmpW.f (by simpa using h0) ?_
  refine gos ?_
  refine CallW.pure (vname_does m s hs) rfl rfl ?_
  refine gos ?_
  refine RetW.plain (by simp) ?_
  simp [maybeF, h0]
theorem vin_does {G : Globs} (n lo hi : Int) : Does Tryz.prog G 85 [.int .i64 n, .int .i64 lo, .int .i64 hi] [] fun ae _ => ae = .ret (.bool (inF n lo hi)) := by
  refine Does.body tab Tryz.func85 rfl rfl ?_
  refine gos ?_
  by_cases h0 : lo ≤ n
  · refine CmpW.T ?_
    refine gos ?_
    refine CmpW.s ?_
    refine gos ?_
    refine RetW.plain (by simp) ?_
    simp [inF, h0]
  · refine CmpW.N ?_
    refine gos ?_
    refine RetW.plain (by simp) ?_
    simp [inF, h0]
theorem code_does {G : Globs} (s : List UInt8) (hs : s.length < 4294967296) : Does Tryz.prog G 167 [.str s] [] fun ae _ => ae = .ret (.bool (codeF s)) := by
  refine Does.bodyA tab Tryz.func167 rfl rfl ?_
  refine AC.step tab ?_
  refine gos ?_
  refine AC.cutF tab (fun e h => s.all upB = true ∧ e = [.str s] ++ List.replicate 22 .any ∧ h = []) ?_ ?_
  · refine gos ?_
    refine AC.loopC tab (fun f e h => ∃ i : Nat, f + i = s.length + 1 ∧ i ≤ s.length ∧ s.all upB = (s.drop i).all upB ∧ e = [.str s, .any, .any, .any, .any, .int .i64 s.length, .int .i64 i] ++ List.replicate 16 .any ∧ h = []) (s.length + 1) ⟨_, fgts, 0, by omega, by omega, rfl, rfl, rfl⟩ ?_
    rintro f e h ⟨i, hf, hi, hF, rfl, rfl⟩
    refine gos ?_
    by_cases hlt : i < s.length
    · obtain ⟨c, hc⟩ : ∃ c, s[i]? = some c := ⟨_, List.getElem?_eq_getElem hlt⟩
      rw [drop_cons' hc, List.all_cons] at hF
      refine CmpW.T ?_
      refine gos ?_
      refine And.intro (by omega) ⟨c, hc, ?_⟩
      refine gos ?_
      by_cases h1 : c.toNat < 65
      · refine CmpW.T ?_
        refine gos ?_
        refine RetW.plain (by simp) ?_
        rw [codeF, hF, show upB c = false by simp [upB]; omega]; rfl
      refine CmpW.N ?_
      refine gos ?_
      refine And.intro (by omega) ⟨c, hc, ?_⟩
      refine gos ?_
      by_cases h2 : 90 < c.toNat
      · refine CmpW.T ?_
        refine gos ?_
        refine RetW.plain (by simp) ?_
        rw [codeF, hF, show upB c = false by simp [upB]; omega]; rfl
      refine CmpW.N ?_
      refine gos ?_
      exact ⟨f - 1, _, 0, by omega, fgts, i + 1, by omega, by omega, by rw [hF, show upB c = true by simp [upB]; omega]; rfl, rfl, rfl⟩
    · refine CmpW.N ?_
      rw [List.drop_of_length_le (by omega)] at hF
      refine gos ?_
      exact ⟨_, 0, fgts, hF, rfl, rfl⟩
  rintro e h ⟨hF, rfl, rfl⟩
  refine AC.go tab ?_
  refine gos ?_
  refine CmpW.s ?_
  refine gos ?_
  refine RetW.plain (by simp) ?_
  simp only [codeF, hF, Bool.true_and]
  congr 1
  congr 1
  rw [Bool.eq_iff_iff]; simp; omega
theorem point_does (m : Int) (t : TTab) (s : List UInt8) (hs : s.length < 4294967296) : Does Tryz.prog (GL m) 83 [.agg (tabC t), .str s] [] fun ae _ => ae = .ret (.bool (pointF t.dg s)) := by
  refine Does.bodyA tab Tryz.func83 rfl rfl ?_
  refine AC.step tab ?_
  refine gos ?_
  intro v1
  refine gos ?_
  refine AC.step tab ?_
  refine gos ?_
  refine CallW.pure (GOne_does m s hs) rfl rfl ?_
  cases h1 : oneF s with
  | false =>
    refine gos ?_
    refine RetW.plain (by simp) ?_
    simp [pointF, h1]
  | true =>
  refine gos ?_
  refine AC.step tab ?_
  refine gos ?_
  have dO := SetOne_does (GL m) t.dg.d0 t.dg.d1 t.dg.d2 t.dg.d3 t.dg.d4 t.dg.d5 t.dg.d6 t.dg.d7 t.dg.d8 t.dg.d9 s
  cases h2 : sonF [t.dg.d0, t.dg.d1, t.dg.d2, t.dg.d3, t.dg.d4, t.dg.d5, t.dg.d6, t.dg.d7, t.dg.d8, t.dg.d9] s with
  | none =>
    rw [h2] at dO
    refine CallW.pure dO rfl rfl ?_
    refine gos ?_
    refine AC.go tab ?_
    refine gos ?_
    refine RetW.plain (by simp) ?_
    simp [pointF, h1, TDig.list, h2]
  | some q =>
    obtain ⟨d, n⟩ := q
    rw [h2] at dO
    refine CallW.pure dO rfl rfl ?_
    refine gos ?_
    refine AC.go tab ?_
    refine gos ?_
    refine RetW.plain (by simp) ?_
    simp [pointF, h1, TDig.list, h2]
end Go.Proofs.YtijdnjngfkohfaaGreatDoor
