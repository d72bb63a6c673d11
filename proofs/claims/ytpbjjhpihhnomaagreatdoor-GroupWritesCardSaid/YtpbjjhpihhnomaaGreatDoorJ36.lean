/- Lists of things, read. -/
import Derived.Test.YtpbjjhpihhnomaaGreatDoorJ32
import Derived.Test.YtpbjjhpihhnomaaGreatDoorJ33
set_option linter.unusedVariables false
set_option linter.unusedSimpArgs false
set_option maxRecDepth 100000
set_option maxHeartbeats 4000000

namespace Go.Proofs.YtpbjjhpihhnomaaGreatDoor
open Go Go.Abs
attribute [local irreducible] DrawW CallW RetW AC Does CmpW
variable {G : Globs}
def rcO (vc v : Nat) : AObj := ⟨vc, 282, 1, [[.ptr 0 v 0 0]]⟩
theorem encT_closed (x : TTxt) : closedL (encT x) = true := rfl
theorem encR_closed (x : TRow) : closedL (encR x) = true := rfl
theorem encCu_closed (x : TCur) : closedL (encCu x) = true := rfl
theorem encU_closed (x : TUnt) : closedL (encU x) = true := rfl
theorem clLL_map {α : Type} {f : α → List AV} (h : ∀ x, closedL (f x) = true) : ∀ l : List α, closedLL (l.map f) = true
  | [] => rfl
  | x :: l => by
    have := clLL_map h l
    simp [closedLL, h x, this]
theorem listG_zero {α : Type} (one : Rd → α × Rd) (r : Rd) : listG one 0 r = ([], r) := rfl
theorem listG_bad {α : Type} (one : Rd → α × Rd) (n : Nat) {r : Rd} (h : r.bad = true) : listG one n r = ([], r) := by
  cases n with
  | zero => rfl
  | succ n => rw [listG, if_pos h]
theorem listG_go {α : Type} (one : Rd → α × Rd) (n : Nat) {r : Rd} (h : r.bad = false) : listG one (n + 1) r = ((one r).1 :: (listG one n (one r).2).1, (listG one n (one r).2).2) := by
  rw [listG, if_neg (by simp [h])]
theorem listT_does (v vc : Nat) (fn : FuncId) (one : Rd → TTxt × Rd) (hk1 : Keeps one)
    (hone : ∀ r : Rd, r.ok → r.s.length < 4294967296 → Does Tryz.prog G fn ([] ++ [] ++ [.ptr 1 vc 0 0]) [some (rdO v r), some (rcO vc v)] fun ae O => ae = .ret (.agg (encT (one r).1)) ∧ O = [some (rdO v (one r).2), some (rcO vc v)])
    (r : Rd) (hk : r.ok) (hs : r.s.length < 4294967296) : Does Tryz.prog G 225 [.ptr 0 v 0 0, .func (.func fn) [] [.ptr 1 vc 0 0]] [some (rdO v r), some (rcO vc v)]
    fun ae O => ae = .ret (.fsl ((listRd one r).1.map encT)) ∧ O = [some (rdO v (listRd one r).2), some (rcO vc v)] := by
  obtain ⟨k1, k2⟩ := count_keeps 65536 r hk
  have kle := count_le 65536 r
  refine Does.bodyA tab Tryz.func225 rfl rfl ?_
  refine AC.step tab ?_
  refine gos ?_
  refine AC.step tab ?_
  refine gos ?_
  refine AC.own 5 173 2 rfl (by omega) fun v0 => ?_
  refine AC.cutF tab (fun e h => ∃ va, e = (List.replicate 5 .any ++ [.sl 2 va] ++ List.replicate 17 .any) ∧ h = [some (rdO v (listRd one r).2), some (rcO vc v), some ⟨va, 173, 2, (listRd one r).1.map encT⟩]) ?_ ?_
  · refine gos ?_
    refine CallW.meth 0 (Count_does v r 65536 (by omega) hk hs) rfl rfl rfl rfl rfl rfl ?_
    have hL : listRd one r = listG one (countRd 65536 r).1 (countRd 65536 r).2 := rfl
    generalize countRd 65536 r = x at *
    obtain ⟨n0, r0⟩ := x
    simp only at k1 k2 kle hL
    rw [← k2] at hs
    clear k2 hk
    refine gos ?_
    refine AC.loopC tab (fun f e h => ∃ (n va : Nat) (acc : List TTxt) (r' : Rd), f = n + 1 ∧ r'.ok ∧ r'.s.length < 4294967296 ∧ acc.length + n ≤ 65536 ∧ listRd one r = (acc ++ (listG one n r').1, (listG one n r').2) ∧
        e = ([.ptr 0 v 0 0, .func (.func fn) [] [.ptr 1 vc 0 0]] ++ List.replicate 3 .any ++ [.sl 2 va, .int .i64 n] ++ List.replicate 16 .any) ∧ h = [some (rdO v r'), some (rcO vc v), some ⟨va, 173, 2, acc.map encT⟩])
      (n0 + 1) ⟨_, fgts, n0, v0, [], r0, rfl, k1, hs, by simpa using kle, by rw [hL]; rfl, rfl, rfl⟩ ?_
    rintro f e h ⟨n, va, acc, r', hf, ok', hs', hacc, hF, rfl, rfl⟩
    refine gos ?_
    cases n with
    | zero =>
      rw [listG_zero] at hF
      refine CmpW.f rfl ?_
      refine gos ?_
      exact ⟨_, 3, fgts, va, rfl, by rw [hF, List.append_nil]; rfl⟩
    | succ n =>
    refine CmpW.T ?_
    refine gos ?_
    refine CallW.meth 0 (OK_does v r') rfl rfl rfl rfl rfl rfl ?_
    cases hb : r'.bad with
    | true =>
      rw [listG_bad _ _ hb] at hF
      refine gos ?_
      exact ⟨_, 3, fgts, va, rfl, by rw [hF, List.append_nil]; rfl⟩
    | false =>
    rw [listG_go _ _ hb] at hF
    refine gos ?_
    obtain ⟨o1, o2⟩ := hk1 r' ok'
    refine CallW.rc (i := 0) (j := 1) (by decide) rfl rfl (hone r' ok' hs') rfl rfl rfl rfl rfl ?_
    generalize one r' = y at *
    obtain ⟨y, r2⟩ := y
    simp only at o1 o2 hF
    rw [← o2] at hs'
    have hal : (acc.map encT).length = acc.length := by simp
    refine gos ?_
    intro v3
    (repeat (first | refine gof ?_ | refine fun (vv : Nat) => ?_))
    rw [show ((n + 1 : Nat) : Int) - 1 = (n : Int) by omega]
    exact ⟨n + 1, _, 3, by omega, fgts, n, vv, acc ++ [y], r2, rfl, o1, hs', by simp; omega, by rw [hF]; simp, rfl, by rw [List.map_append]; rfl⟩
  rintro e h ⟨va, rfl, rfl⟩
  refine AC.go tab ?_
  refine gos ?_
  refine RetW.wk (r' := .fsl ((listRd one r).1.map encT)) (by simp) ?_ (Wk.row (k := 0) (i := 2) (o := ⟨va, 173, 2, (listRd one r).1.map encT⟩) rfl rfl rfl (clLL_map encT_closed _)) ?_
  · rfl
  exact ⟨rfl, rfl⟩
theorem listR_does (v vc : Nat) (fn : FuncId) (one : Rd → TRow × Rd) (hk1 : Keeps one)
    (hone : ∀ r : Rd, r.ok → r.s.length < 4294967296 → Does Tryz.prog G fn ([] ++ [] ++ [.ptr 1 vc 0 0]) [some (rdO v r), some (rcO vc v)] fun ae O => ae = .ret (.agg (encR (one r).1)) ∧ O = [some (rdO v (one r).2), some (rcO vc v)])
    (r : Rd) (hk : r.ok) (hs : r.s.length < 4294967296) : Does Tryz.prog G 221 [.ptr 0 v 0 0, .func (.func fn) [] [.ptr 1 vc 0 0]] [some (rdO v r), some (rcO vc v)]
    fun ae O => ae = .ret (.fsl ((listRd one r).1.map encR)) ∧ O = [some (rdO v (listRd one r).2), some (rcO vc v)] := by
  obtain ⟨k1, k2⟩ := count_keeps 65536 r hk
  have kle := count_le 65536 r
  refine Does.bodyA tab Tryz.func221 rfl rfl ?_
  refine AC.step tab ?_
  refine gos ?_
  refine AC.step tab ?_
  refine gos ?_
  refine AC.own 5 176 2 rfl (by omega) fun v0 => ?_
  refine AC.cutF tab (fun e h => ∃ va, e = (List.replicate 5 .any ++ [.sl 2 va] ++ List.replicate 17 .any) ∧ h = [some (rdO v (listRd one r).2), some (rcO vc v), some ⟨va, 176, 2, (listRd one r).1.map encR⟩]) ?_ ?_
  · refine gos ?_
    refine CallW.meth 0 (Count_does v r 65536 (by omega) hk hs) rfl rfl rfl rfl rfl rfl ?_
    have hL : listRd one r = listG one (countRd 65536 r).1 (countRd 65536 r).2 := rfl
    generalize countRd 65536 r = x at *
    obtain ⟨n0, r0⟩ := x
    simp only at k1 k2 kle hL
    rw [← k2] at hs
    clear k2 hk
    refine gos ?_
    refine AC.loopC tab (fun f e h => ∃ (n va : Nat) (acc : List TRow) (r' : Rd), f = n + 1 ∧ r'.ok ∧ r'.s.length < 4294967296 ∧ acc.length + n ≤ 65536 ∧ listRd one r = (acc ++ (listG one n r').1, (listG one n r').2) ∧
        e = ([.ptr 0 v 0 0, .func (.func fn) [] [.ptr 1 vc 0 0]] ++ List.replicate 3 .any ++ [.sl 2 va, .int .i64 n] ++ List.replicate 16 .any) ∧ h = [some (rdO v r'), some (rcO vc v), some ⟨va, 176, 2, acc.map encR⟩])
      (n0 + 1) ⟨_, fgts, n0, v0, [], r0, rfl, k1, hs, by simpa using kle, by rw [hL]; rfl, rfl, rfl⟩ ?_
    rintro f e h ⟨n, va, acc, r', hf, ok', hs', hacc, hF, rfl, rfl⟩
    refine gos ?_
    cases n with
    | zero =>
      rw [listG_zero] at hF
      refine CmpW.f rfl ?_
      refine gos ?_
      exact ⟨_, 3, fgts, va, rfl, by rw [hF, List.append_nil]; rfl⟩
    | succ n =>
    refine CmpW.T ?_
    refine gos ?_
    refine CallW.meth 0 (OK_does v r') rfl rfl rfl rfl rfl rfl ?_
    cases hb : r'.bad with
    | true =>
      rw [listG_bad _ _ hb] at hF
      refine gos ?_
      exact ⟨_, 3, fgts, va, rfl, by rw [hF, List.append_nil]; rfl⟩
    | false =>
    rw [listG_go _ _ hb] at hF
    refine gos ?_
    obtain ⟨o1, o2⟩ := hk1 r' ok'
    refine CallW.rc (i := 0) (j := 1) (by decide) rfl rfl (hone r' ok' hs') rfl rfl rfl rfl rfl ?_
    generalize one r' = y at *
    obtain ⟨y, r2⟩ := y
    simp only at o1 o2 hF
    rw [← o2] at hs'
    have hal : (acc.map encR).length = acc.length := by simp
    refine gos ?_
    intro v3
    (repeat (first | refine gof ?_ | refine fun (vv : Nat) => ?_))
    rw [show ((n + 1 : Nat) : Int) - 1 = (n : Int) by omega]
    exact ⟨n + 1, _, 3, by omega, fgts, n, vv, acc ++ [y], r2, rfl, o1, hs', by simp; omega, by rw [hF]; simp, rfl, by rw [List.map_append]; rfl⟩
  rintro e h ⟨va, rfl, rfl⟩
  refine AC.go tab ?_
  refine gos ?_
  refine RetW.wk (r' := .fsl ((listRd one r).1.map encR)) (by simp) ?_ (Wk.row (k := 0) (i := 2) (o := ⟨va, 176, 2, (listRd one r).1.map encR⟩) rfl rfl rfl (clLL_map encR_closed _)) ?_
  · rfl
  exact ⟨rfl, rfl⟩
theorem listC_does (v vc : Nat) (fn : FuncId) (one : Rd → TCur × Rd) (hk1 : Keeps one)
    (hone : ∀ r : Rd, r.ok → r.s.length < 4294967296 → Does Tryz.prog G fn ([] ++ [] ++ [.ptr 1 vc 0 0]) [some (rdO v r), some (rcO vc v)] fun ae O => ae = .ret (.agg (encCu (one r).1)) ∧ O = [some (rdO v (one r).2), some (rcO vc v)])
    (r : Rd) (hk : r.ok) (hs : r.s.length < 4294967296) : Does Tryz.prog G 172 [.ptr 0 v 0 0, .func (.func fn) [] [.ptr 1 vc 0 0]] [some (rdO v r), some (rcO vc v)]
    fun ae O => ae = .ret (.fsl ((listRd one r).1.map encCu)) ∧ O = [some (rdO v (listRd one r).2), some (rcO vc v)] := by
  obtain ⟨k1, k2⟩ := count_keeps 65536 r hk
  have kle := count_le 65536 r
  refine Does.bodyA tab Tryz.func172 rfl rfl ?_
  refine AC.step tab ?_
  refine gos ?_
  refine AC.step tab ?_
  refine gos ?_
  refine AC.own 5 128 8 rfl (by omega) fun v0 => ?_
  refine AC.cutF tab (fun e h => ∃ va, e = (List.replicate 5 .any ++ [.sl 2 va] ++ List.replicate 17 .any) ∧ h = [some (rdO v (listRd one r).2), some (rcO vc v), some ⟨va, 128, 8, (listRd one r).1.map encCu⟩]) ?_ ?_
  · refine gos ?_
    refine CallW.meth 0 (Count_does v r 65536 (by omega) hk hs) rfl rfl rfl rfl rfl rfl ?_
    have hL : listRd one r = listG one (countRd 65536 r).1 (countRd 65536 r).2 := rfl
    generalize countRd 65536 r = x at *
    obtain ⟨n0, r0⟩ := x
    simp only at k1 k2 kle hL
    rw [← k2] at hs
    clear k2 hk
    refine gos ?_
    refine AC.loopC tab (fun f e h => ∃ (n va : Nat) (acc : List TCur) (r' : Rd), f = n + 1 ∧ r'.ok ∧ r'.s.length < 4294967296 ∧ acc.length + n ≤ 65536 ∧ listRd one r = (acc ++ (listG one n r').1, (listG one n r').2) ∧
        e = ([.ptr 0 v 0 0, .func (.func fn) [] [.ptr 1 vc 0 0]] ++ List.replicate 3 .any ++ [.sl 2 va, .int .i64 n] ++ List.replicate 16 .any) ∧ h = [some (rdO v r'), some (rcO vc v), some ⟨va, 128, 8, acc.map encCu⟩])
      (n0 + 1) ⟨_, fgts, n0, v0, [], r0, rfl, k1, hs, by simpa using kle, by rw [hL]; rfl, rfl, rfl⟩ ?_
    rintro f e h ⟨n, va, acc, r', hf, ok', hs', hacc, hF, rfl, rfl⟩
    refine gos ?_
    cases n with
    | zero =>
      rw [listG_zero] at hF
      refine CmpW.f rfl ?_
      refine gos ?_
      exact ⟨_, 3, fgts, va, rfl, by rw [hF, List.append_nil]; rfl⟩
    | succ n =>
    refine CmpW.T ?_
    refine gos ?_
    refine CallW.meth 0 (OK_does v r') rfl rfl rfl rfl rfl rfl ?_
    cases hb : r'.bad with
    | true =>
      rw [listG_bad _ _ hb] at hF
      refine gos ?_
      exact ⟨_, 3, fgts, va, rfl, by rw [hF, List.append_nil]; rfl⟩
    | false =>
    rw [listG_go _ _ hb] at hF
    refine gos ?_
    obtain ⟨o1, o2⟩ := hk1 r' ok'
    refine CallW.rc (i := 0) (j := 1) (by decide) rfl rfl (hone r' ok' hs') rfl rfl rfl rfl rfl ?_
    generalize one r' = y at *
    obtain ⟨y, r2⟩ := y
    simp only at o1 o2 hF
    rw [← o2] at hs'
    have hal : (acc.map encCu).length = acc.length := by simp
    refine gos ?_
    intro v3
    (repeat (first | refine gof ?_ | refine fun (vv : Nat) => ?_))
    rw [show ((n + 1 : Nat) : Int) - 1 = (n : Int) by omega]
    exact ⟨n + 1, _, 3, by omega, fgts, n, vv, acc ++ [y], r2, rfl, o1, hs', by simp; omega, by rw [hF]; simp, rfl, by rw [List.map_append]; rfl⟩
  rintro e h ⟨va, rfl, rfl⟩
  refine AC.go tab ?_
  refine gos ?_
  refine RetW.wk (r' := .fsl ((listRd one r).1.map encCu)) (by simp) ?_ (Wk.row (k := 0) (i := 2) (o := ⟨va, 128, 8, (listRd one r).1.map encCu⟩) rfl rfl rfl (clLL_map encCu_closed _)) ?_
  · rfl
  exact ⟨rfl, rfl⟩
theorem listU_does (v vc : Nat) (fn : FuncId) (one : Rd → TUnt × Rd) (hk1 : Keeps one)
    (hone : ∀ r : Rd, r.ok → r.s.length < 4294967296 → Does Tryz.prog G fn ([] ++ [] ++ [.ptr 1 vc 0 0]) [some (rdO v r), some (rcO vc v)] fun ae O => ae = .ret (.agg (encU (one r).1)) ∧ O = [some (rdO v (one r).2), some (rcO vc v)])
    (r : Rd) (hk : r.ok) (hs : r.s.length < 4294967296) : Does Tryz.prog G 175 [.ptr 0 v 0 0, .func (.func fn) [] [.ptr 1 vc 0 0]] [some (rdO v r), some (rcO vc v)]
    fun ae O => ae = .ret (.fsl ((listRd one r).1.map encU)) ∧ O = [some (rdO v (listRd one r).2), some (rcO vc v)] := by
  obtain ⟨k1, k2⟩ := count_keeps 65536 r hk
  have kle := count_le 65536 r
  refine Does.bodyA tab Tryz.func175 rfl rfl ?_
  refine AC.step tab ?_
  refine gos ?_
  refine AC.step tab ?_
  refine gos ?_
  refine AC.own 5 126 2 rfl (by omega) fun v0 => ?_
  refine AC.cutF tab (fun e h => ∃ va, e = (List.replicate 5 .any ++ [.sl 2 va] ++ List.replicate 17 .any) ∧ h = [some (rdO v (listRd one r).2), some (rcO vc v), some ⟨va, 126, 2, (listRd one r).1.map encU⟩]) ?_ ?_
  · refine gos ?_
    refine CallW.meth 0 (Count_does v r 65536 (by omega) hk hs) rfl rfl rfl rfl rfl rfl ?_
    have hL : listRd one r = listG one (countRd 65536 r).1 (countRd 65536 r).2 := rfl
    generalize countRd 65536 r = x at *
    obtain ⟨n0, r0⟩ := x
    simp only at k1 k2 kle hL
    rw [← k2] at hs
    clear k2 hk
    refine gos ?_
    refine AC.loopC tab (fun f e h => ∃ (n va : Nat) (acc : List TUnt) (r' : Rd), f = n + 1 ∧ r'.ok ∧ r'.s.length < 4294967296 ∧ acc.length + n ≤ 65536 ∧ listRd one r = (acc ++ (listG one n r').1, (listG one n r').2) ∧
        e = ([.ptr 0 v 0 0, .func (.func fn) [] [.ptr 1 vc 0 0]] ++ List.replicate 3 .any ++ [.sl 2 va, .int .i64 n] ++ List.replicate 16 .any) ∧ h = [some (rdO v r'), some (rcO vc v), some ⟨va, 126, 2, acc.map encU⟩])
      (n0 + 1) ⟨_, fgts, n0, v0, [], r0, rfl, k1, hs, by simpa using kle, by rw [hL]; rfl, rfl, rfl⟩ ?_
    rintro f e h ⟨n, va, acc, r', hf, ok', hs', hacc, hF, rfl, rfl⟩
    refine gos ?_
    cases n with
    | zero =>
      rw [listG_zero] at hF
      refine CmpW.f rfl ?_
      refine gos ?_
      exact ⟨_, 3, fgts, va, rfl, by rw [hF, List.append_nil]; rfl⟩
    | succ n =>
    refine CmpW.T ?_
    refine gos ?_
    refine CallW.meth 0 (OK_does v r') rfl rfl rfl rfl rfl rfl ?_
    cases hb : r'.bad with
    | true =>
      rw [listG_bad _ _ hb] at hF
      refine gos ?_
      exact ⟨_, 3, fgts, va, rfl, by rw [hF, List.append_nil]; rfl⟩
    | false =>
    rw [listG_go _ _ hb] at hF
    refine gos ?_
    obtain ⟨o1, o2⟩ := hk1 r' ok'
    refine CallW.rc (i := 0) (j := 1) (by decide) rfl rfl (hone r' ok' hs') rfl rfl rfl rfl rfl ?_
    generalize one r' = y at *
    obtain ⟨y, r2⟩ := y
    simp only at o1 o2 hF
    rw [← o2] at hs'
    have hal : (acc.map encU).length = acc.length := by simp
    refine gos ?_
    intro v3
    (repeat (first | refine gof ?_ | refine fun (vv : Nat) => ?_))
    rw [show ((n + 1 : Nat) : Int) - 1 = (n : Int) by omega]
    exact ⟨n + 1, _, 3, by omega, fgts, n, vv, acc ++ [y], r2, rfl, o1, hs', by simp; omega, by rw [hF]; simp, rfl, by rw [List.map_append]; rfl⟩
  rintro e h ⟨va, rfl, rfl⟩
  refine AC.go tab ?_
  refine gos ?_
  refine RetW.wk (r' := .fsl ((listRd one r).1.map encU)) (by simp) ?_ (Wk.row (k := 0) (i := 2) (o := ⟨va, 126, 2, (listRd one r).1.map encU⟩) rfl rfl rfl (clLL_map encU_closed _)) ?_
  · rfl
  exact ⟨rfl, rfl⟩
end Go.Proofs.YtpbjjhpihhnomaaGreatDoor
