/- Whatever options: whether they go together. -/
import Derived.Test.YtjjppmbojcgdgaaGreatDoorOch
import Derived.Test.YtjjppmbojcgdgaaGreatDoorOpo
set_option linter.unusedVariables false
set_option linter.unusedSimpArgs false
set_option maxRecDepth 100000
set_option maxHeartbeats 4000000
namespace Go.Proofs.YtjjppmbojcgdgaaGreatDoor
open Go Go.Abs
attribute [local irreducible] DrawW CallW RetW AC Does CmpW
variable {G : Globs} {m : Int}

theorem Fits_does (n : Int) (o : TOpt) (hs : o.code.length < 1000000) (hd : o.prec.inc.digits.length < 1000000) : Does Tryz.prog G 44 [.int .i64 n, .agg o.cells] [] fun ae _ => ae = .ret (.bool (fitsO (hasU (baseF n) o.unit) o)) := by
 have dB := Base_does (G := G) n
 have dV := Valid4_does (G := G) o.prec hd
 have dL := letters_does (G := G) o.code hs
 have hu5 : (baseF n).units.length < 50000 := by have := fitsB n; obtain ⟨hD, hMi, hPl, hPc, hPm, hPo, hCo, hDe, hPe, hMo, hAc, hRu, hSh, hLo, hMs, hCu, hUn, hMu, hBe, hAf⟩ := this; exact hUn.1
 unfold fitsO
 generalize pvalF o.prec = v at *
 generalize lettersF o.code = lb at *
 unfold monyB
 obtain ⟨st, co, cd, un, sy, ca, mo, ow, pr, pl⟩ := o
 dsimp only at *
 refine Does.bodyA tab Tryz.func44 rfl rfl ?_
 refine AC.step tab ?_
 refine gos ?_
 intro v1
 refine gos ?_
 refine AC.cutF tab (fun e h => ¬ (st < 0 ∨ 5 < st ∨ co < 0 ∨ 2 < co ∨ sy < 0 ∨ 2 < sy ∨ mo < 0 ∨ 6 < mo) ∧ e = ([.int .i64 n] ++ List.replicate 2 .any ++ [.ptr 0 v1 0 0] ++ List.replicate 163 .any) ∧ h = [some ⟨v1, 108, 17, [oC st co cd un sy ca mo ow pr pl]⟩]) ?_ ?_
 · refine gos ?_
   (repeat' (first | refine gon ?_ | refine CmpW.split (fun hc => ?_) (fun hc => ?_)))
   all_goals (try (refine RetW.plain (by simp) ?_; rw [if_pos (by simp only [decide_eq_true_eq, decide_eq_false_iff_not] at *; omega)]; done))
   all_goals exact ⟨_, 1, fgts, by simp only [decide_eq_true_eq, decide_eq_false_iff_not] at *; omega, rfl, rfl⟩
 rintro e h ⟨k1, rfl, rfl⟩
 rw [if_neg k1]
 clear k1
 refine AC.cutF tab (fun e h => ¬ ((co = 1 ∧ st ≠ 0 ∧ st ≠ 2) ∨ (co = 2 ∧ st ≠ 0)) ∧ e = ([.int .i64 n] ++ List.replicate 2 .any ++ [.ptr 0 v1 0 0] ++ List.replicate 163 .any) ∧ h = [some ⟨v1, 108, 17, [oC st co cd un sy ca mo ow pr pl]⟩]) ?_ ?_
 · refine gos ?_
   by_cases h1 : co = 1
   · refine CmpW.t (by simpa using h1) ?_
     refine gos ?_
     by_cases h2 : st = 0
     · refine CmpW.f (by simpa using h2) ?_
       refine gos ?_
       refine CmpW.f (by simp [h1]) ?_
       refine gos ?_
       exact ⟨_, 1, fgts, by omega, rfl, rfl⟩
     · refine CmpW.t (by simpa using h2) ?_
       refine gos ?_
       by_cases h3 : st = 2
       · refine CmpW.f (by simpa using h3) ?_
         refine gos ?_
         refine CmpW.f (by simp [h1]) ?_
         refine gos ?_
         exact ⟨_, 1, fgts, by omega, rfl, rfl⟩
       · refine CmpW.t (by simpa using h3) ?_
         refine gos ?_
         refine RetW.plain (by simp) ?_
         rw [if_pos (by omega)]
   · refine CmpW.f (by simpa using h1) ?_
     refine gos ?_
     by_cases h2 : co = 2
     · refine CmpW.t (by simpa using h2) ?_
       refine gos ?_
       by_cases h3 : st = 0
       · refine CmpW.f (by simpa using h3) ?_
         refine gos ?_
         exact ⟨_, 1, fgts, by omega, rfl, rfl⟩
       · refine CmpW.t (by simpa using h3) ?_
         refine gos ?_
         refine RetW.plain (by simp) ?_
         rw [if_pos (by omega)]
     · refine CmpW.f (by simpa using h2) ?_
       refine gos ?_
       exact ⟨_, 1, fgts, by omega, rfl, rfl⟩
 rintro e h ⟨k2, rfl, rfl⟩
 rw [if_neg k2]
 clear k2
 refine AC.cutF tab (fun e h => ¬ (ow = true ∧ (v = false ∨ (co ≠ 0 ∧ pr.kind = 2))) ∧ e = ([.int .i64 n] ++ List.replicate 2 .any ++ [.ptr 0 v1 0 0] ++ List.replicate 163 .any) ∧ h = [some ⟨v1, 108, 17, [oC st co cd un sy ca mo ow pr pl]⟩]) ?_ ?_
 · refine gos ?_
   cases ow
   · refine gos ?_
     exact ⟨_, 1, fgts, by simp, rfl, rfl⟩
   · refine gos ?_
     refine CallW.pure dV rfl rfl ?_
     cases v
     · refine gos ?_
       refine RetW.plain (by simp) ?_
       rw [if_pos (by simp)]
     · refine gos ?_
       by_cases h1 : co = 0
       · refine CmpW.f (by simpa using h1) ?_
         refine gos ?_
         exact ⟨_, 1, fgts, by simp [h1], rfl, rfl⟩
       · refine CmpW.t (by simpa using h1) ?_
         refine gos ?_
         by_cases h2 : pr.kind = 2
         · refine CmpW.t (by simpa using h2) ?_
           refine gos ?_
           refine RetW.plain (by simp) ?_
           rw [if_pos (by simp [h1, h2])]
         · refine CmpW.f (by simpa using h2) ?_
           refine gos ?_
           exact ⟨_, 1, fgts, by simp [h2], rfl, rfl⟩
 rintro e h ⟨k3, rfl, rfl⟩
 rw [if_neg k3]
 clear k3 dV
 refine AC.cutF tab (fun e h => ∃ mb : Bool, mb = decide (st = 2 ∨ st = 3 ∨ st = 4) ∧ e = ([.int .i64 n] ++ List.replicate 2 .any ++ [.ptr 0 v1 0 0] ++ List.replicate 1 .any ++ [.bool mb] ++ List.replicate 161 .any) ∧ h = [some ⟨v1, 108, 17, [oC st co cd un sy ca mo ow pr pl]⟩]) ?_ ?_
 · refine gos ?_
   by_cases h1 : st = 2
   · refine CmpW.t (by simpa using h1) ?_
     refine gos ?_
     exact ⟨_, 1, fgts, true, by simp [h1], rfl, rfl⟩
   refine CmpW.f (by simpa using h1) ?_
   refine gos ?_
   by_cases h2 : st = 3
   · refine CmpW.t (by simpa using h2) ?_
     refine gos ?_
     exact ⟨_, 1, fgts, true, by simp [h2], rfl, rfl⟩
   refine CmpW.f (by simpa using h2) ?_
   refine gos ?_
   by_cases h3 : st = 4
   · refine CmpW.t (by simpa using h3) ?_
     refine gos ?_
     exact ⟨_, 1, fgts, true, by simp [h3], rfl, rfl⟩
   · refine CmpW.f (by simpa using h3) ?_
     refine gos ?_
     exact ⟨_, 1, fgts, false, by simp [h1, h2, h3], rfl, rfl⟩
 rintro e h ⟨mb, hmb, rfl, rfl⟩
 rw [← hmb]
 clear hmb
 refine AC.cutF tab (fun e h => ¬ (mb ≠ lb ∨ (mb = false ∧ (cd ≠ [] ∨ ca = true))) ∧ e = ([.int .i64 n] ++ List.replicate 2 .any ++ [.ptr 0 v1 0 0] ++ List.replicate 163 .any) ∧ h = [some ⟨v1, 108, 17, [oC st co cd un sy ca mo ow pr pl]⟩]) ?_ ?_
 · refine gos ?_
   refine CallW.pure dL rfl rfl ?_
   cases mb <;> cases lb
   · refine gos ?_
     by_cases h1 : cd = []
     · refine CmpW.f (by simpa using h1) ?_
       refine gos ?_
       cases ca
       · refine gos ?_
         exact ⟨_, 1, fgts, by simp [h1], rfl, rfl⟩
       · refine gos ?_
         refine RetW.plain (by simp) ?_
         rw [if_pos (by simp)]
     · refine CmpW.t (by simpa using h1) ?_
       refine gos ?_
       refine RetW.plain (by simp) ?_
       rw [if_pos (by simp [h1])]
   · refine gos ?_
     refine RetW.plain (by simp) ?_
     rw [if_pos (by simp)]
   · refine gos ?_
     refine RetW.plain (by simp) ?_
     rw [if_pos (by simp)]
   · refine gos ?_
     exact ⟨_, 1, fgts, by simp, rfl, rfl⟩
 rintro e h ⟨k4, rfl, rfl⟩
 rw [if_neg k4]
 clear k4 dL
 generalize baseF n = t at *
 refine AC.step tab ?_
 refine gos ?_
 have lu : (t.units.map encU).length = t.units.length := by simp
 refine AC.cutF tab (fun e h => ∃ b : Bool, b = hasU t un ∧ e = (List.replicate 3 .any ++ [.ptr 0 v1 0 0] ++ List.replicate 2 .any ++ [.bool b] ++ List.replicate 160 .any) ∧ h = [some ⟨v1, 108, 17, [oC st co cd un sy ca mo ow pr pl]⟩]) ?_ ?_
 · refine gos ?_
   refine CallW.pure dB rfl rfl ?_
   refine gos ?_
   rw [lu]
   refine AC.loopC tab (fun f e h => ∃ (i : Nat) (b : Bool), f + i = t.units.length + 1 ∧ i ≤ t.units.length ∧ b = (t.units.take i).any (fun u => decide (u.name = un)) ∧ e = (List.replicate 3 .any ++ [.ptr 0 v1 0 0] ++ List.replicate 2 .any ++ [.bool b] ++ List.replicate 115 .any ++ [untL t.units, .int .i64 t.units.length, .int .i64 i] ++ List.replicate 42 .any) ∧ h = [some ⟨v1, 108, 17, [oC st co cd un sy ca mo ow pr pl]⟩])
    (t.units.length + 1) ⟨_, fgts, 0, false, by omega, by omega, rfl, rfl, rfl⟩ ?_
   rintro f e h ⟨i, b, hf, hi, hb, rfl, rfl⟩
   refine gos ?_
   by_cases hlt : i < t.units.length
   · obtain ⟨u, hu⟩ : ∃ u, t.units[i]? = some u := ⟨_, List.getElem?_eq_getElem hlt⟩
     have hnx : ∀ b', b' = (b || decide (u.name = un)) → b' = (t.units.take (i + 1)).any (fun u => decide (u.name = un)) := fun b' h => by
      rw [List.take_add_one, hu, List.any_append, ← hb, h]; simp
     refine CmpW.T ?_
     refine gos ?_
     refine And.intro (encU_two t.units) (And.intro (by omega) ⟨encU u, by rw [Int.toNat_natCast]; exact map_get hu, ?_⟩)
     refine gos ?_
     intro v2
     cases b
     · refine gos ?_
       by_cases hn : u.name = un
       · refine CmpW.t (by simp [hn]) ?_
         refine gos ?_
         exact ⟨f - 1, _, 1, by omega, fgts, i + 1, true, by omega, by omega, hnx _ (by simp [hn]), rfl, rfl⟩
       · refine CmpW.f (by simp [hn]) ?_
         refine gos ?_
         exact ⟨f - 1, _, 1, by omega, fgts, i + 1, false, by omega, by omega, hnx _ (by simp [hn]), rfl, rfl⟩
     · refine gos ?_
       exact ⟨f - 1, _, 1, by omega, fgts, i + 1, true, by omega, by omega, hnx _ rfl, rfl, rfl⟩
   · refine CmpW.N ?_
     refine gos ?_
     have : i = t.units.length := by omega
     subst this
     rw [List.take_length] at hb
     exact ⟨_, 1, fgts, b, hb, rfl, rfl⟩
 rintro e h ⟨b, hb, rfl, rfl⟩
 rw [← hb]
 clear hb
 refine AC.cutF tab (fun e h => ¬ ((st = 5 ∧ b = false) ∨ (st ≠ 5 ∧ un ≠ [])) ∧ e = (List.replicate 3 .any ++ [.ptr 0 v1 0 0] ++ List.replicate 163 .any) ∧ h = [some ⟨v1, 108, 17, [oC st co cd un sy ca mo ow pr pl]⟩]) ?_ ?_
 · refine gos ?_
   by_cases h1 : st = 5
   · refine CmpW.t (by simpa using h1) ?_
     cases b
     · refine gos ?_
       refine RetW.plain (by simp) ?_
       rw [if_pos (by simp [h1])]
     · refine gos ?_
       refine CmpW.f (by simpa using h1) ?_
       refine gos ?_
       exact ⟨_, 1, fgts, by simp [h1], rfl, rfl⟩
   · refine CmpW.f (by simpa using h1) ?_
     refine gos ?_
     refine CmpW.t (by simpa using h1) ?_
     refine gos ?_
     by_cases h2 : un = []
     · refine CmpW.f (by simpa using h2) ?_
       refine gos ?_
       exact ⟨_, 1, fgts, by simp [h1, h2], rfl, rfl⟩
     · refine CmpW.t (by simpa using h2) ?_
       refine gos ?_
       refine RetW.plain (by simp) ?_
       rw [if_pos (by simp [h1, h2])]
 rintro e h ⟨k5, rfl, rfl⟩
 rw [if_neg k5]
 refine AC.go tab ?_
 refine gos ?_
 by_cases h1 : sy = 0
 · refine CmpW.t (by simpa using h1) ?_
   refine gos ?_
   refine RetW.plain (by simp) ?_
   simp [h1]
 refine CmpW.f (by simpa using h1) ?_
 refine gos ?_
 by_cases h2 : st = 2
 · refine CmpW.t (by simpa using h2) ?_
   refine gos ?_
   refine RetW.plain (by simp) ?_
   simp [h2]
 refine CmpW.f (by simpa using h2) ?_
 refine gos ?_
 refine CmpW.s ?_
 refine gos ?_
 refine RetW.plain (by simp) ?_
 simp [h1, h2] <;> rfl
theorem OptionChecks_does (n : Int) (o : TOpt) (hc : o.code.length ≤ 140737488355328) (hu : o.unit.length ≤ 140737488355328) (hd : o.prec.inc.digits.length ≤ 140737488355328) :
 Does Tryz.prog (GP m) 7 [.int .i64 n, .agg o.cells] [] fun ae _ => ae = .ret (.bool true) := by
 have d0 : Does Tryz.prog (GP m) 16 [.int .i64 n] [] fun ae _ => ae = .ret (.fptr (tabC (baseF n) ++ restB n)) := (Base18_does (m := m) n).more
 have dS := small22_does (G := GP m) o
 have hS : smallB o = true → o.code.length < 1000000 ∧ o.prec.inc.digits.length < 1000000 := fun h => by
  simp only [smallB, Bool.and_eq_true, decide_eq_true_eq] at h; omega
 generalize smallB o = sm at *
 refine Does.body tab Tryz.func7 rfl rfl ?_
 refine gos ?_
 intro v1
 refine gos ?_
 refine CallW.pure head22_does rfl rfl ?_
 refine gos ?_
 refine CallW.pure dS rfl rfl ?_
 cases sm
 · refine gos ?_
   refine RetW.plain (by simp) ?_
   rfl
 obtain ⟨h1, h2⟩ := hS rfl
 obtain ⟨x, y, hx, hy, ho, dU⟩ := UnitB_does (G := GP m) n o.unit
 have dC := OCheck_does (G := GP m) o _ x y hx hy ho _ h1 h2 dU
 have dF := Fits_does (G := GP m) n o h1 h2
 rw [fits_chk] at dF
 generalize chkO (hasU (baseF n) o.unit) o = c at *
 generalize tabC (baseF n) ++ restB n = ls at *
 refine gos ?_
 refine CallW.pure d0 rfl rfl ?_
 refine gos ?_
 refine CallW.pure dC rfl rfl ?_
 cases c
 · refine gos ?_
   refine CallW.pure dF rfl rfl ?_
   refine gos ?_
   refine RetW.plain (by simp) ?_
   rfl
 · refine gos ?_
   refine CallW.pure dF rfl rfl ?_
   refine gos ?_
   refine RetW.plain (by simp) ?_
   rfl
theorem OptionChecks_ok (m n : Int) (o : TOpt) (w : o.wf) : Does Tryz.prog (GP m) 7 [.int .i64 n, .agg o.cells] [] fun ae _ => ae = .ret (.bool true) :=
 OptionChecks_does n o w.cd w.un w.pr.2.2.2.1
end Go.Proofs.YtjjppmbojcgdgaaGreatDoor
