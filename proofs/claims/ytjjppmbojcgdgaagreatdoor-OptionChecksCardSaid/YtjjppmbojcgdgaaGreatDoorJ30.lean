/- A table at hand. -/
import Derived.Test.YtjjppmbojcgdgaaGreatDoorJ29
import Derived.Test.YtjjppmbojcgdgaaGreatDoorJ23
set_option linter.unusedVariables false
set_option linter.unusedSimpArgs false
set_option maxRecDepth 100000
set_option maxHeartbeats 4000000

namespace Go.Proofs.YtjjppmbojcgdgaaGreatDoor
open Go Go.Abs
attribute [local irreducible] DrawW CallW RetW AC Does CmpW
variable {m : Int}
theorem closed_putM (x : List UInt8) {c : AV} (hc : closed c = true) : ∀ {es : List (List AV)}, keysOK es = true → closedLL es = true → closedLL (putM es x c) = true
  | [], _, _ => by simp [putM, closedLL, closedL, closed, hc]
  | [.str k, v] :: es, h, hl => by
    have h' : keysOK es = true := by simpa [keysOK] using h
    simp only [closedLL, closedL, Bool.and_eq_true] at hl
    unfold putM
    split
    · simp [closedLL, closedL, closed, hc, hl.2]
    · simp only [closedLL, closedL, closed, hl.1.2.1, closed_putM x hc h' hl.2, Bool.and_self]
theorem closed_mapG {α : Type} (key : α → List UInt8) (val : α → AV) (hv : ∀ x, closed (val x) = true) : ∀ (l : List α) (es : List (List AV)), keysOK es = true → closedLL es = true → closedLL (mapG key val es l) = true
  | [], _, _, h => h
  | x :: l, es, hk, h => closed_mapG key val hv l _ (keysOK_putM _ _ hk) (closed_putM _ (hv x) hk h)
theorem mapG_snoc {α : Type} (key : α → List UInt8) (val : α → AV) (x : α) : ∀ (l : List α) (es : List (List AV)), mapG key val es (l ++ [x]) = putM (mapG key val es l) (key x) (val x)
  | [], _ => rfl
  | y :: l, es => by rw [List.cons_append, mapG, mapG_snoc key val x l]; rfl
def unitsM (l : List TUnt) : List (List AV) := mapG (·.name) unitV [] l
def namesM (l : List TCur) : List (List AV) := mapG (·.code) curV [] (l.filter fun c => decide (c.names ≠ []))
theorem unitsM_ok (l : List TUnt) : keysOK (unitsM l) = true := mapG_ok _ _ _ _ rfl
theorem namesM_ok (l : List TCur) : keysOK (namesM l) = true := mapG_ok _ _ _ _ rfl
theorem unitsM_closed (l : List TUnt) : closedLL (unitsM l) = true := closed_mapG _ _ (fun _ => rfl) _ _ rfl rfl
theorem namesM_closed (l : List TCur) : closedLL (namesM l) = true := closed_mapG _ _ (fun _ => rfl) _ _ rfl rfl
theorem unitsM_succ {l : List TUnt} {i : Nat} {x : TUnt} (h : l[i]? = some x) : unitsM (l.take (i + 1)) = putM (unitsM (l.take i)) x.name (unitV x) := by
  rw [unitsM, List.take_add_one, h]
  exact mapG_snoc (fun u : TUnt => u.name) unitV x _ _
theorem namesM_succ {l : List TCur} {i : Nat} {x : TCur} (h : l[i]? = some x) : namesM (l.take (i + 1)) = if x.names = [] then namesM (l.take i) else putM (namesM (l.take i)) x.code (curV x) := by
  rw [namesM, List.take_add_one, h, List.filter_append]
  by_cases hn : x.names = []
  · simp [hn, namesM]
  · rw [if_neg hn]
    have : List.filter (fun c : TCur => decide (c.names ≠ [])) (Option.toList (some x)) = [x] := by simp [hn]
    rw [this]
    exact mapG_snoc (fun c : TCur => c.code) curV x _ _
def locX (o : TTab) (p1 p2 p3 p4 : PD) (rest : List AV) : List AV := tabC o ++ p1.cells ++ p2.cells ++ p3.cells ++ p4.cells ++ rest
def rest0 : List AV := [.nils, .nils, .nils, .nils, .nils, .nils, .str [], .nils, .nils, .str [], .fmap [], .fmap [], .nilp]
def rest1 (t : TTab) (u n mu : AV) : List AV := [.fsl ((rulP t.rules).1.map encRul), lrL t.short, lrL t.long, lrL t.mshort, .fsl (clsP t.before.cur), .fsl (clsP t.before.num), .str t.before.ins, .fsl (clsP t.after.cur), .fsl (clsP t.after.num), .str t.after.ins, u, n, mu]
theorem New_does' (dOwn : ∀ t : TTab, t.below = true → (encF t).length ≤ 65536 → Does Tryz.prog (GL m) 66 [.agg (tabC t)] [] fun ae _ => ae = .ret (.agg (tabC (decF (encF t)).1)))
    (t : TTab) (hf : t.fits) (hbel : checkF t = 0 → t.below = true) (henc : checkF t = 0 → (encF t).length ≤ 65536) : Does Tryz.prog (GL m) 30 [.agg (tabC t)] [] fun ae _ => ae = .ret (newF t) := by
  have dC := Check_does (m := m) hf
  obtain ⟨hD, hMi, hPl, hPc, hPm, hPo, hCo, hDe, hPe, hMo, hAc, hRu, hSh, hLo, hMs, hCu, hUn, hMu, hBe, hAf⟩ := hf
  have lc : (t.curs.map encCu).length = t.curs.length := by simp
  have lu : (t.units.map encU).length = t.units.length := by simp
  refine Does.bodyA tab Tryz.func30 rfl rfl ?_
  refine AC.step tab ?_
  refine gos ?_
  intro v0
  refine gos ?_
  refine AC.wk (Wk.ptr (k := 1) (i := 0) rfl rfl rfl rfl rfl) ?_
  refine AC.step tab ?_
  refine gos ?_
  refine CallW.pure dC rfl rfl ?_
  clear dC
  refine gos ?_
  by_cases hc : checkF t = 0
  case neg =>
    refine CmpW.t (by simpa using hc) ?_
    refine gos ?_
    refine RetW.plain (by simp) ?_
    rw [newF, if_neg hc]
  refine CmpW.f (by simpa using hc) ?_
  refine gos ?_
  rw [newF, if_pos hc]
  have dO := dOwn t (hbel hc) (henc hc)
  clear dOwn
  generalize (decF (encF t)).1 = o at *
  have d1 := pat_does (m := m) t.decimal (by omega)
  have d2 := pat_does (m := m) t.per (by omega)
  have d3 := pat_does (m := m) t.money (by omega)
  have d4 := pat_does (m := m) t.account (by omega)
  have hL : locC o t = locX o (patP t.decimal) (patP t.per) (patP t.money) (patP t.account) (rest1 t (.fmap (unitsM t.units)) (.fmap (namesM t.curs)) (.fptr (bcC encB (brzB 2 t.munit)))) := by
    unfold locC locX rest1
    simp only [List.append_assoc]
    rfl
  rw [hL]
  clear hL
  generalize patP t.decimal = p1 at *
  generalize patP t.per = p2 at *
  generalize patP t.money = p3 at *
  generalize patP t.account = p4 at *
  refine AC.cutF tab (fun e h => ∃ v1, e = (List.replicate 1 .any ++ [.fptr (tabC t)] ++ List.replicate 2 .any ++ [.ptr 1 v1 0 0] ++ List.replicate 118 .any) ∧ h = [none, some ⟨v1, 73, 91, [locX o p1 p2 p3 p4 rest0]⟩]) ?_ ?_
  · refine gos ?_
    refine DrawW.P (.takeF 0 (.take 2 (.takeF 3 (.take 5 (.takeF 6 (.take 8 (.takeF 9 (.take 11 (.takeF 12 (.take 1 (.take 4 (.take 7 (.take 10 (.take 13 (.take 14 (.take 15 (.take 16 .done))))))))))))))))) ?_
    refine gos ?_
    refine CallW.pure dO rfl rfl ?_
    refine gos ?_
    refine CallW.pure d1 rfl rfl ?_
    refine gos ?_
    refine CallW.pure d2 rfl rfl ?_
    refine gos ?_
    refine CallW.pure d3 rfl rfl ?_
    refine gos ?_
    refine CallW.pure d4 rfl rfl ?_
    refine gos ?_
    intro v1
    refine gos ?_
    exact ⟨_, 2, fgts, v1, rfl, rfl⟩
  rintro e h ⟨v1, rfl, rfl⟩
  clear d1 d2 d3 d4 dO
  refine AC.step tab ?_
  refine gos ?_
  refine CallW.pure (RParse_does (m := m) t.rules (by omega)) rfl rfl ?_
  refine gos ?_
  refine AC.cutF tab (fun e h => e = (List.replicate 1 .any ++ [.fptr (tabC t)] ++ List.replicate 2 .any ++ [.ptr 1 v1 0 0] ++ List.replicate 118 .any) ∧ h = [none, some ⟨v1, 73, 91, [locX o p1 p2 p3 p4 [.fsl ((rulP t.rules).1.map encRul), lrL t.short, lrL t.long, lrL t.mshort, .nils, .nils, .str [], .nils, .nils, .str [], .fmap [], .fmap [], .nilp]]⟩]) ?_ ?_
  · refine gos ?_
    refine DrawW.P (.take 0 (.take 1 (.take 2 (.take 3 (.takeF 4 (.take 6 (.takeF 7 (.take 9 (.takeF 10 (.take 5 (.take 8 (.take 11 (.take 12 (.take 13 (.take 14 (.take 15 (.take 16 (.take 17 (.take 18 (.take 19 (.take 20 .done))))))))))))))))))))) ?_
    refine gos ?_
    refine CallW.pure (lrows_does (m := m) t.short (by omega) hSh.2) rfl rfl ?_
    refine gos ?_
    refine CallW.pure (lrows_does (m := m) t.long (by omega) hLo.2) rfl rfl ?_
    refine gos ?_
    refine CallW.pure (lrows_does (m := m) t.mshort (by omega) hMs.2) rfl rfl ?_
    refine gos ?_
    exact ⟨_, 2, fgts, rfl, rfl⟩
  rintro e h ⟨rfl, rfl⟩
  refine AC.cutF tab (fun e h => e = (List.replicate 1 .any ++ [.fptr (tabC t)] ++ List.replicate 2 .any ++ [.ptr 1 v1 0 0] ++ List.replicate 118 .any) ∧ h = [none, some ⟨v1, 73, 91, [locX o p1 p2 p3 p4 (rest1 t (.fmap []) (.fmap []) .nilp)]⟩]) ?_ ?_
  · refine gos ?_
    refine DrawW.P (.take 0 (.take 1 (.take 2 (.takeF 3 (.take 5 (.takeF 6 (.take 4 (.take 7 (.take 8 (.take 9 (.take 10 (.take 11 (.take 12 (.take 13 .done)))))))))))))) ?_
    refine gos ?_
    refine CallW.pure (space_does (m := m) t.before (by have := hBe.cur; omega) (by have := hBe.num; omega)) rfl rfl ?_
    refine gos ?_
    refine CallW.pure (space_does (m := m) t.after (by have := hAf.cur; omega) (by have := hAf.num; omega)) rfl rfl ?_
    refine gos ?_
    exact ⟨_, 2, fgts, rfl, rfl⟩
  rintro e h ⟨rfl, rfl⟩
  refine AC.cutF tab (fun e h => ∃ vu vn, e = (List.replicate 1 .any ++ [.fptr (tabC t)] ++ List.replicate 2 .any ++ [.ptr 1 v1 0 0] ++ List.replicate 118 .any) ∧ h = [none, some ⟨v1, 73, 91, [locX o p1 p2 p3 p4 (rest1 t (.mp 2 vu) (.mp 3 vn) .nilp)]⟩, some ⟨vu, 69, 0, []⟩, some ⟨vn, 70, 0, []⟩]) ?_ ?_
  · refine gos ?_
    intro vu
    refine gos ?_
    intro vn
    refine gos ?_
    exact ⟨_, 4, fgts, vu, vn, rfl, rfl⟩
  rintro e h ⟨vu, vn, rfl, rfl⟩
  refine AC.cutA (fun e h => e = (List.replicate 1 .any ++ [.fptr (tabC t)] ++ List.replicate 2 .any ++ [.ptr 1 v1 0 0] ++ List.replicate 118 .any) ∧ h = [none, some ⟨v1, 73, 91, [locX o p1 p2 p3 p4 (rest1 t (.mp 2 vu) (.mp 3 vn) .nilp)]⟩, some ⟨vu, 69, 0, unitsM t.units⟩, some ⟨vn, 70, 0, []⟩]) ?_ ?_
  · refine AC.step tab ?_
    refine gos ?_
    rw [lu]
    refine AC.blk ?_
    refine AC.loopA (fun f e h => ∃ i : Nat, f + i = t.units.length + 1 ∧ i ≤ t.units.length ∧ e = (List.replicate 1 .any ++ [.fptr (tabC t)] ++ List.replicate 2 .any ++ [.ptr 1 v1 0 0] ++ List.replicate 72 .any ++ [.fsl (t.units.map encU), .int .i64 t.units.length, .int .i64 i] ++ List.replicate 43 .any) ∧
        h = [none, some ⟨v1, 73, 91, [locX o p1 p2 p3 p4 (rest1 t (.mp 2 vu) (.mp 3 vn) .nilp)]⟩, some ⟨vu, 69, 0, unitsM (t.units.take i)⟩, some ⟨vn, 70, 0, []⟩]) (t.units.length + 1) ⟨_, fgts, 0, by omega, by omega, rfl, rfl⟩ ?_
    rintro f e h ⟨i, hf, hi, rfl, rfl⟩
    have hUl := hUn.1
    refine AC.step tab ?_
    refine gos ?_
    by_cases hlt : i < t.units.length
    · obtain ⟨x, hx⟩ : ∃ d, t.units[i]? = some d := ⟨_, List.getElem?_eq_getElem hlt⟩
      have hsu := unitsM_succ hx
      have hok := unitsM_ok (t.units.take i)
      obtain ⟨u1, u2⟩ := (hUn.2 x (List.mem_of_getElem? hx)).2
      have dB := byBra_does (G := GL m) x.texts (by omega) 164 [.fptr [.int .i64 1]] rfl (brzP 1) (fun s => rfl) (fun y hy => placed1_does 1 (by omega) y.text (by have := u2 y hy; omega))
      have hV : AV.fptr (bcC encB (byC ([], []) (brzP 1) x.texts)) = unitV x := rfl
      rw [hV] at dB
      clear hV
      generalize hM : unitsM (t.units.take i) = M at *
      refine CmpW.T ?_
      refine gos ?_
      refine AC.step tab ?_
      refine gos ?_
      refine AC.seqA ?_
      refine AC.blk ?_
      refine AC.step tab ?_
      refine gos ?_
      refine And.intro (encU_two t.units) (And.intro (by omega) ⟨encU x, by rw [Int.toNat_natCast]; exact map_get hx, ?_⟩)
      refine gos ?_
      intro v4
      refine gos ?_
      refine AC.wk (Wk.ptr (k := 6) (i := 4) rfl rfl rfl rfl rfl) ?_
      refine AC.go tab ?_
      refine DrawW.P (.take 0 (.take 1 (.take 2 (.take 4 (.takeF 5 (.take 6 (.takeF 7 (.fork (.cons 3 (.take 8 (.take 9 (.take 10 .done))) (.cons 8 (.fork (.cons 3 (.take 9 (.take 10 .done)) (.cons 9 (.take 3 (.take 10 .done)) .nil))) .nil)))))))))) ?_
      (repeat' (first | exact trivial | refine CallW.pure (placed_does 1) rfl rfl ?_ | refine CallW.pure dB rfl rfl ?_ | refine And.intro (And.intro rfl (And.intro hok rfl)) ?_ | refine gon ?_ | refine And.intro ?_ ?_))
      all_goals
        refine AC.go tab ?_
        refine gos ?_
        exact ⟨f - 1, _, 4, by omega, fgts, i + 1, by omega, by omega, rfl, by rw [hsu]; rfl⟩
    · refine CmpW.N ?_
      refine gos ?_
      refine AC.step tab ?_
      refine gos ?_
      have : i = t.units.length := by omega
      subst this
      exact ⟨_, 4, fgts, rfl, by rw [List.take_length]; rfl⟩
  rintro e h ⟨rfl, rfl⟩
  refine AC.cutA (fun e h => e = (List.replicate 1 .any ++ [.fptr (tabC t)] ++ List.replicate 2 .any ++ [.ptr 1 v1 0 0] ++ List.replicate 118 .any) ∧ h = [none, some ⟨v1, 73, 91, [locX o p1 p2 p3 p4 (rest1 t (.mp 2 vu) (.mp 3 vn) .nilp)]⟩, some ⟨vu, 69, 0, unitsM t.units⟩, some ⟨vn, 70, 0, namesM t.curs⟩]) ?_ ?_
  · refine AC.step tab ?_
    refine gos ?_
    rw [lc]
    refine AC.blk ?_
    refine AC.loopA (fun f e h => ∃ i : Nat, f + i = t.curs.length + 1 ∧ i ≤ t.curs.length ∧ e = (List.replicate 1 .any ++ [.fptr (tabC t)] ++ List.replicate 2 .any ++ [.ptr 1 v1 0 0] ++ List.replicate 90 .any ++ [.fsl (t.curs.map encCu), .int .i64 t.curs.length, .int .i64 i] ++ List.replicate 25 .any) ∧
        h = [none, some ⟨v1, 73, 91, [locX o p1 p2 p3 p4 (rest1 t (.mp 2 vu) (.mp 3 vn) .nilp)]⟩, some ⟨vu, 69, 0, unitsM t.units⟩, some ⟨vn, 70, 0, namesM (t.curs.take i)⟩]) (t.curs.length + 1) ⟨_, fgts, 0, by omega, by omega, rfl, rfl⟩ ?_
    rintro f e h ⟨i, hf, hi, rfl, rfl⟩
    have hUl := hCu.1
    refine AC.step tab ?_
    refine gos ?_
    by_cases hlt : i < t.curs.length
    · obtain ⟨x, hx⟩ : ∃ d, t.curs[i]? = some d := ⟨_, List.getElem?_eq_getElem hlt⟩
      have hsu := namesM_succ hx
      have hok := namesM_ok (t.curs.take i)
      obtain ⟨_, _, _, u1, u2⟩ := hCu.2 x (List.mem_of_getElem? hx)
      have dB := byStr_does (G := GL m) x.names (by omega) 73 [] rfl id (fun s => rfl) (fun y hy => SClone_does y.text (by have := u2 y hy; omega))
      have hV : AV.fptr (bcC encS1 (byC [] id x.names)) = curV x := rfl
      rw [hV] at dB
      clear hV
      have hnl : (x.names.map encT).length = x.names.length := by simp
      generalize hM : namesM (t.curs.take i) = M at *
      refine CmpW.T ?_
      refine gos ?_
      refine AC.step tab ?_
      refine gos ?_
      refine AC.seqA ?_
      refine AC.blk ?_
      refine AC.step tab ?_
      refine gos ?_
      refine And.intro (encCu_eight t.curs) (And.intro (by omega) ⟨encCu x, by rw [Int.toNat_natCast]; exact map_get hx, ?_⟩)
      refine gos ?_
      intro v4
      refine gos ?_
      refine AC.wk (Wk.ptr (k := 8) (i := 4) rfl rfl rfl rfl rfl) ?_
      refine AC.step tab ?_
      refine gos ?_
      rw [hnl]
      by_cases hn : x.names = []
      · rw [if_pos hn] at hsu
        refine CmpW.f (by simp [hn]) ?_
        refine gos ?_
        refine AC.go tab ?_
        refine gos ?_
        refine AC.go tab ?_
        refine gos ?_
        exact ⟨f - 1, _, 4, by omega, fgts, i + 1, by omega, by omega, rfl, by rw [hsu]; rfl⟩
      · rw [if_neg hn] at hsu
        have : 1 ≤ x.names.length := List.length_pos_iff.2 hn
        refine CmpW.T ?_
        refine gos ?_
        refine AC.go tab ?_
        refine gos ?_
        refine DrawW.P (.take 0 (.take 1 (.take 2 (.take 4 (.takeF 5 (.take 6 (.takeF 7 (.fork (.cons 3 (.take 8 (.take 9 .done)) (.cons 8 (.take 3 (.take 9 .done)) .nil)))))))))) ?_
        (repeat' (first | exact trivial | refine CallW.pure dB rfl rfl ?_ | refine And.intro (And.intro rfl (And.intro hok rfl)) ?_ | refine gon ?_ | refine And.intro ?_ ?_))
        all_goals
          refine AC.go tab ?_
          refine gos ?_
          exact ⟨f - 1, _, 4, by omega, fgts, i + 1, by omega, by omega, rfl, by rw [hsu]; rfl⟩
    · refine CmpW.N ?_
      refine gos ?_
      refine AC.step tab ?_
      refine gos ?_
      have : i = t.curs.length := by omega
      subst this
      exact ⟨_, 4, fgts, rfl, by rw [List.take_length]; rfl⟩
  rintro e h ⟨rfl, rfl⟩
  have dM := byBra_does (G := GL m) t.munit (by have := hMu.1; omega) 164 [.fptr [.int .i64 2]] rfl (brzP 2) (fun s => rfl) (fun y hy => placed1_does 2 (by omega) y.text (by have := hMu.2 y hy; omega))
  have hV : AV.fptr (bcC encB (byC ([], []) (brzP 2) t.munit)) = AV.fptr (bcC encB (brzB 2 t.munit)) := rfl
  rw [hV] at dM
  clear hV
  generalize bcC encB (brzB 2 t.munit) = MU at *
  refine AC.step tab ?_
  refine DrawW.P (.take 0 (.take 1 (.takeF 2 (.take 3 (.take 4 (.take 5 (.take 6 (.take 7 .done)))))))) ?_
  refine gos ?_
  refine CallW.pure (placed_does 2) rfl rfl ?_
  refine gos ?_
  refine CallW.pure dM rfl rfl ?_
  refine gos ?_
  refine AC.mapC 2 1 0 88 rfl rfl (by decide) rfl rfl rfl (unitsM_closed _) ?_
  refine AC.mapC 3 1 0 89 rfl rfl (by decide) rfl rfl rfl (namesM_closed _) ?_
  refine AC.go tab ?_
  refine gos ?_
  refine RetW.wk (r' := .tuple [.fptr (locX o p1 p2 p3 p4 (rest1 t (.fmap (unitsM t.units)) (.fmap (namesM t.curs)) (.fptr MU))), .int .i64 0]) (by simp) ?_ (Wk.tuple (Wk.ptr (k := 0) (i := 1) rfl rfl rfl rfl rfl)) ?_
  · rfl
  rfl
end Go.Proofs.YtjjppmbojcgdgaaGreatDoor
