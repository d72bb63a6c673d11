/- Options go together, with a locale: the program's answer, and the page's. -/
import Derived.Test.YtjjppmbojcgdgaaGreatDoorOfn
import Derived.Test.YtjjppmbojcgdgaaGreatDoorJ37
import Derived.Test.YtjjppmbojcgdgaaGreatDoorJ33
set_option linter.unusedVariables false
set_option linter.unusedSimpArgs false
set_option maxRecDepth 100000
set_option maxHeartbeats 4000000
namespace Go.Proofs.YtjjppmbojcgdgaaGreatDoor
open Go Go.Abs
attribute [local irreducible] DrawW CallW RetW AC Does CmpW
variable {G : Globs} {m : Int}

/-- Is there such a unit? -/
def hasU (t : TTab) (s : List UInt8) : Bool := t.units.any fun u => decide (u.name = s)
theorem locG (n : Int) : tabC (baseF n) ++ restB n = locX (baseF n) (patP (baseF n).decimal) (patP (baseF n).per) (patP (baseF n).money) (patP (baseF n).account)
 (rest1 (baseF n) (.fmap (unitsM (baseF n).units)) (.fmap (namesM (baseF n).curs)) (.fptr (bcC encB (brzB 2 (baseF n).munit)))) := by
 rw [← locB]
 unfold locC locX rest1
 simp only [List.append_assoc]
 rfl
/-- What Unit answers for one of the three. -/
theorem UnitB_does (n : Int) (s : List UInt8) : ∃ x y : AV, closed x = true ∧ closed y = true ∧ ones [x, y] = true ∧ Does Tryz.prog G 204 [.fptr (tabC (baseF n) ++ restB n), .str s, .int .i64 0] [] fun ae _ => ae = .ret (.tuple [.agg [x, y], .bool (hasU (baseF n) s)]) := by
 rw [locG]
 have hf := checkB n
 generalize baseF n = t at *
 by_cases h : ∃ u ∈ t.units, u.name = s
 · obtain ⟨u, hu, rfl⟩ := h
   have hh : hasU t u.name = true := List.any_eq_true.2 ⟨u, hu, by simp⟩
   rw [hh]
   exact ⟨.fsl (getC (brzB 1 u.texts) 0).1, .fsl (getC (brzB 1 u.texts) 0).2, rfl, rfl, rfl, Unit_some (unitsM_ok t.units) (unit_some hf hu) 0⟩
 · have hh : hasU t s = false := by
    unfold hasU
    rw [List.any_eq_false]
    intro u hu
    simp only [decide_eq_true_eq]
    exact fun e => h ⟨u, hu, e⟩
   rw [hh]
   exact ⟨.nils, .nils, rfl, rfl, rfl, Unit_none (unitsM_ok t.units) (unit_none fun u hu e => h ⟨u, hu, e⟩) 0⟩
def oC (st co : Int) (cd un : List UInt8) (sy : Int) (ca : Bool) (mo : Int) (ow : Bool) (pr : TPrec) (pl : Bool) : List AV := [.int .i64 st, .int .i64 co, .str cd, .str un, .int .i64 sy, .bool ca, .int .i64 mo, .bool ow, .int .i64 pr.kind, .int .i64 pr.min, .int .i64 pr.max, .bool pr.inc.neg, .str pr.inc.digits, .int .i64 pr.inc.exp, .int .i64 pr.mode, .int .i64 pr.minInt, .bool pl]
theorem beqN (l : List UInt8) : (l == []) = decide (l = []) := by cases l <;> rfl
theorem named_does (o : TOpt) (ls : List AV) (x y : AV) (hx : closed x = true) (hy : closed y = true) (ho : ones [x, y] = true) (there : Bool) (hs : o.code.length < 1000000)
 (dU : Does Tryz.prog G 204 [.fptr ls, .str o.unit, .int .i64 0] [] fun ae _ => ae = .ret (.tuple [.agg [x, y], .bool there])) :
 Does Tryz.prog G 130 [.agg o.cells, .fptr ls] [] fun ae _ => ae = .ret (.bool (namedB there o)) := by
 have dM := omoney_does (G := G) o
 have dC := ocode_does (G := G) o.code hs
 unfold namedB
 generalize monyB o = mb at *
 generalize lettersF o.code = lb at *
 obtain ⟨st, co, cd, un, sy, ca, mo, ow, pr, pl⟩ := o
 dsimp only at *
 refine Does.body tab Tryz.func130 rfl rfl ?_
 refine gos ?_
 intro v1
 refine gos ?_
 refine CallW.pure dM rfl rfl ?_
 cases mb
 case true =>
  refine gos ?_
  refine CallW.pure dC rfl rfl ?_
  cases lb
  · refine gos ?_
    refine RetW.plain (by simp) ?_
    rfl
  · refine gos ?_
    refine CmpW.s ?_
    refine gos ?_
    refine RetW.plain (by simp) ?_
    rw [beqN]; rfl
 refine gos ?_
 refine CallW.pure dU rfl (by simp [closed, closedL, hx, hy]) ?_
 refine gos ?_
 intro v2
 refine gos ?_
 refine And.intro ho ?_
 refine gos ?_
 by_cases h1 : cd = []
 case neg =>
  refine CmpW.f (by simp [h1]) ?_
  refine gos ?_
  refine RetW.plain (by simp) ?_
  simp [h1]
 refine CmpW.t (by simp [h1]) ?_
 refine gos ?_
 cases ca
 case true =>
  refine gos ?_
  refine RetW.plain (by simp) ?_
  simp [h1]
 refine gos ?_
 by_cases h2 : st = 5
 · refine CmpW.t (by simpa using h2) ?_
   cases there
   · refine gos ?_
     refine CmpW.f (by simpa using h2) ?_
     refine gos ?_
     refine RetW.plain (by simp) ?_
     simp [h1, h2]
   · refine gos ?_
     refine RetW.plain (by simp) ?_
     simp [h1, h2]
 · refine CmpW.f (by simpa using h2) ?_
   refine gos ?_
   refine CmpW.t (by simpa using h2) ?_
   refine gos ?_
   refine CmpW.s ?_
   refine gos ?_
   refine RetW.plain (by simp) ?_
   rw [beqN]
   simp [h1, h2]
theorem OCheck_does (o : TOpt) (ls : List AV) (x y : AV) (hx : closed x = true) (hy : closed y = true) (ho : ones [x, y] = true) (there : Bool) (hs : o.code.length < 1000000) (hd : o.prec.inc.digits.length < 1000000)
 (dU : Does Tryz.prog G 204 [.fptr ls, .str o.unit, .int .i64 0] [] fun ae _ => ae = .ret (.tuple [.agg [x, y], .bool there])) :
 Does Tryz.prog G 43 [.fptr ls, .agg o.cells] [] fun ae _ => ae = .ret (.int .i64 (if chkO there o = true then 0 else 6)) := by
 have d1 := kinds_does (G := G) o
 have d2 := shorter_does (G := G) o
 have d3 := digits22_does (G := G) o hd
 have d4 := named_does (G := G) o ls x y hx hy ho there hs dU
 unfold chkO
 generalize kindsB o = b1 at *
 generalize shorterB o = b2 at *
 generalize digitsB o = b3 at *
 generalize namedB there o = b4 at *
 refine Does.body tab Tryz.func43 rfl rfl ?_
 refine gos ?_
 intro v1
 refine gos ?_
 refine CallW.pure d1 rfl rfl ?_
 cases b1
 · refine gos ?_
   refine RetW.plain (by simp) ?_
   rfl
 refine gos ?_
 refine CallW.pure d2 rfl rfl ?_
 cases b2
 · refine gos ?_
   refine RetW.plain (by simp) ?_
   rfl
 refine gos ?_
 refine CallW.pure d3 rfl rfl ?_
 cases b3
 · refine gos ?_
   refine RetW.plain (by simp) ?_
   rfl
 refine gos ?_
 refine CallW.pure d4 rfl rfl ?_
 cases b4
 · refine gos ?_
   refine RetW.plain (by simp) ?_
   rfl
 refine gos ?_
 by_cases h1 : o.sym = 0
 · refine CmpW.f (by simpa using h1) ?_
   refine gos ?_
   refine RetW.plain (by simp) ?_
   simp [h1]
 refine CmpW.t (by simpa using h1) ?_
 refine gos ?_
 by_cases h2 : o.style = 2
 · refine CmpW.f (by simpa using h2) ?_
   refine gos ?_
   refine RetW.plain (by simp) ?_
   simp [h2]
 refine CmpW.t (by simpa using h2) ?_
 refine gos ?_
 by_cases h3 : o.style = 3
 · refine CmpW.f (by simpa using h3) ?_
   refine gos ?_
   refine RetW.plain (by simp) ?_
   simp [h3]
 refine CmpW.t (by simpa using h3) ?_
 refine gos ?_
 refine RetW.plain (by simp) ?_
 simp [h1, h2, h3]
end Go.Proofs.YtjjppmbojcgdgaaGreatDoor
