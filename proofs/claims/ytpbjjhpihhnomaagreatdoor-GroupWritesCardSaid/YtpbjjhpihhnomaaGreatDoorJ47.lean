/- Whatever digits: in groups of any lengths, and read again. -/
import Derived.Test.YtpbjjhpihhnomaaGreatDoorJ43
import Derived.Test.YtpbjjhpihhnomaaGreatDoorJ46
set_option linter.unusedVariables false
set_option linter.unusedSimpArgs false
set_option maxRecDepth 100000
set_option maxHeartbeats 4000000

namespace Go.Proofs.YtpbjjhpihhnomaaGreatDoor
open Go Go.Abs
open Gpl (Part wrG cutsF lwF lwG)
open Grd (Tok sgn runP stepF St nextF Plainly readF)
def dTok (c : UInt8) : Tok := (1, c.toNat - 48)
def tkG : Bool → List UInt8 → List Nat → List Tok
  | _, _, [] => []
  | first, w, n :: ns => (if first then [] else [(2, 0)]) ++ (w.take n).map dTok ++ tkG false (w.drop n) ns
def tkV (ns : List Nat) (v : TVis) : List Tok := tkG true v.int ns ++ (if v.frac = [] then [] else (3, 0) :: v.frac.map dTok)
theorem sgn_dig (t : TTab) (w : List UInt8) : (w.map dTok).flatMap (sgn (grd t)) = wrSet (dsT t) w := by
  unfold wrSet
  rw [List.flatMap_map]
  rfl
theorem txt_wrG (t : TTab) : ∀ (ns : List Nat) (w : List UInt8) (first : Bool), txtP (wrG (wrSet (dsT t)) t.comma first w ns) = (tkG first w ns).flatMap (sgn (grd t))
  | [], w, first => rfl
  | n :: ns, w, first => by
    have ih := txt_wrG t ns (w.drop n) false
    have h0 : (if 0 < n then [(⟨1, wrSet (dsT t) (w.take n)⟩ : Part)] else []).flatMap Part.text = wrSet (dsT t) (w.take n) := by
      by_cases hn : 0 < n
      · simp [hn]
      · have : n = 0 := by omega
        subst this; rfl
    have hf : (if first = true then [] else [(⟨2, t.comma⟩ : Part)]).flatMap Part.text = (if first = true then [] else [((2, 0) : Tok)]).flatMap (sgn (grd t)) := by
      cases first
      · simp only [Bool.false_eq_true, if_false, List.flatMap_cons, List.flatMap_nil]; rfl
      · rfl
    unfold txtP at ih ⊢
    simp only [wrG, tkG, List.flatMap_append, sgn_dig, h0, hf, ih]
theorem txt_gwr (t : TTab) (v : TVis) (last more : Int) : txtP (gwrF t v last more) = (tkV (cutsF v.int.length last more t.minGroup) v).flatMap (sgn (grd t)) := by
  unfold gwrF tkV fracP
  rw [List.flatMap_append, ← txt_wrG]
  unfold txtP
  rw [List.flatMap_append]
  congr 1
  by_cases h : v.frac = []
  · rw [if_pos h, if_pos h]; rfl
  · rw [if_neg h, if_neg h]
    simp only [List.flatMap_cons, List.flatMap_nil, List.append_nil, sgn_dig]
    rfl
theorem dig_back {c : UInt8} (h : digB c = true) : UInt8.ofNat (48 + (c.toNat - 48)) = c := by
  simp only [digB, decide_eq_true_eq] at h
  rw [show 48 + (c.toNat - 48) = c.toNat by omega]
  exact UInt8.ofNat_toNat
theorem isF_cons {c : UInt8} {a : List UInt8} (h : isF (c :: a) = true) : digB c = true ∧ isF a = true := by
  unfold isF at *
  rwa [List.all_cons, Bool.and_eq_true] at h
theorem run_int : ∀ (a : List UInt8) (la : Nat) (xi xf : List UInt8) (r : List Tok), isF a = true → runP ⟨false, la, xi, xf⟩ (a.map dTok ++ r) = runP ⟨false, if a = [] then la else 1, xi ++ a, xf⟩ r
  | [], la, xi, xf, r, _ => by simp
  | c :: a, la, xi, xf, r, h => by
    have hc := isF_cons h
    have e : runP ⟨false, la, xi, xf⟩ ((c :: a).map dTok ++ r) = runP ⟨false, 1, xi ++ [c], xf⟩ (a.map dTok ++ r) := by
      simp [runP, stepF, dTok, dig_back hc.1]
    rw [e, run_int a 1 (xi ++ [c]) xf r hc.2]
    simp
theorem run_frac : ∀ (a : List UInt8) (la : Nat) (xi xf : List UInt8) (r : List Tok), isF a = true → runP ⟨true, la, xi, xf⟩ (a.map dTok ++ r) = runP ⟨true, if a = [] then la else 1, xi, xf ++ a⟩ r
  | [], la, xi, xf, r, _ => by simp
  | c :: a, la, xi, xf, r, h => by
    have hc := isF_cons h
    have e : runP ⟨true, la, xi, xf⟩ ((c :: a).map dTok ++ r) = runP ⟨true, 1, xi, xf ++ [c]⟩ (a.map dTok ++ r) := by
      simp [runP, stepF, dTok, dig_back hc.1]
    rw [e, run_frac a 1 xi (xf ++ [c]) r hc.2]
    simp
theorem run_groups : ∀ (ns : List Nat) (w xi : List UInt8) (first : Bool) (la : Nat) (r : List Tok), ns.sum = w.length → (∀ n ∈ ns, 0 < n) → (first = false → la = 1) → isF w = true →
    runP ⟨false, la, xi, []⟩ (tkG first w ns ++ r) = runP ⟨false, if ns = [] then la else 1, xi ++ w, []⟩ r
  | [], w, xi, first, la, r, hs, _, _, _ => by
    have : w = [] := List.eq_nil_of_length_eq_zero (by simpa using hs.symm)
    simp [tkG, this]
  | n :: ns, w, xi, first, la, r, hs, hp, hl, hw => by
    have hn := hp n (by simp)
    rw [List.sum_cons] at hs
    have hs1 : ns.sum = (w.drop n).length := by rw [List.length_drop]; omega
    have hne : w.take n ≠ [] := fun h => by
      have := congrArg List.length h
      rw [List.length_take, List.length_nil] at this
      omega
    have ih := run_groups ns (w.drop n) (xi ++ w.take n) false 1 r hs1 (fun m hm => hp m (by simp [hm])) (fun _ => rfl) (isF_drop hw n)
    have key : ∀ la', runP ⟨false, la', xi, []⟩ ((w.take n).map dTok ++ (tkG false (w.drop n) ns ++ r)) = runP ⟨false, 1, xi ++ w, []⟩ r := fun la' => by
      rw [run_int _ la' xi [] _ (isF_take hw n), if_neg hne, ih]
      simp
    cases first with
    | true => simpa [tkG] using key la
    | false =>
      have h1 := hl rfl
      subst h1
      have e : runP ⟨false, 1, xi, []⟩ (tkG false w (n :: ns) ++ r) = runP ⟨false, 2, xi, []⟩ ((w.take n).map dTok ++ (tkG false (w.drop n) ns ++ r)) := by
        simp [tkG, runP, stepF]
      rw [e, key]; simp
theorem cuts_pos {n : Nat} {last more least : Int} (hl : 1 ≤ least) : cutsF n last more least = [n] ∨ ∀ m ∈ cutsF n last more least, 0 < m := by
  unfold cutsF
  rw [if_pos (show 0 < least by omega)]
  by_cases h : last < 1 ∨ (n : Int) - least < last
  · left; rw [if_pos h]
  · right; rw [if_neg h]
    obtain ⟨mo, hmo, hmo2⟩ : ∃ mo : Nat, (if more < 1 then last else more).toNat = mo ∧ 0 < mo := ⟨_, rfl, by split <;> omega⟩
    rw [hmo]
    obtain ⟨r, q, e1, e2⟩ := Gpl.cutL_form mo hmo2 n (n - last.toNat) [last.toNat] (by omega)
    rw [e1]
    intro m hm
    split at hm
    · rename_i h0
      have := (e2 h0).1
      simp at hm
      rcases hm with rfl | ⟨_, rfl⟩ | rfl <;> omega
    · simp at hm
      omega
theorem back_run (t : TTab) (v : TVis) (last more : Int) (hm : 1 ≤ t.minGroup) (hi : isF v.int = true) (hf : isF v.frac = true) (hne : v.int = [] → v.frac ≠ []) :
    runP St.init (tkV (cutsF v.int.length last more t.minGroup) v) = some (v.int, v.frac) := by
  have hsum := Gpl.cuts_sum (n := v.int.length) (last := last) (more := more) hm
  have hpos := cuts_pos (n := v.int.length) (last := last) (more := more) hm
  generalize cutsF v.int.length last more t.minGroup = ns at hsum hpos
  have key : ∀ r, runP ⟨false, 2, [], []⟩ (tkG true v.int ns ++ r) = runP ⟨false, if v.int = [] then 2 else 1, v.int, []⟩ r := fun r => by
    rcases hpos with rfl | h
    · have e : tkG true v.int [v.int.length] = v.int.map dTok := by simp [tkG]
      rw [e, run_int _ 2 [] [] r hi]; simp
    · rw [run_groups ns v.int [] true 2 r hsum h (fun h => by cases h) hi]
      by_cases hv : v.int = []
      · have : ns = [] := by
          cases ns with
          | nil => rfl
          | cons m ms =>
            have := h m (by simp)
            rw [hv] at hsum
            simp at hsum
            omega
        simp [this, hv]
      · have : ns ≠ [] := fun e => by
          subst e
          exact hv (List.eq_nil_of_length_eq_zero (by simpa using hsum.symm))
        simp [this, hv]
  show runP ⟨false, 2, [], []⟩ _ = _
  unfold tkV
  rw [key]
  by_cases h : v.frac = []
  · have hv : v.int ≠ [] := fun e => hne e h
    simp [h, hv, runP]
  · rw [if_neg h]
    have e : runP ⟨false, if v.int = [] then 2 else 1, v.int, []⟩ ((3, 0) :: v.frac.map dTok) = runP ⟨true, 3, v.int, []⟩ (v.frac.map dTok ++ []) := by
      by_cases hv : v.int = [] <;> simp [runP, stepF, hv]
    rw [e, run_frac _ 3 v.int [] [] hf]
    simp [h, runP]
theorem dTok_ok {w : List UInt8} (hw : isF w = true) : ∀ x ∈ w.map dTok, x.1 ≤ 3 ∧ x.2 ≤ 9 := fun x hx => by
  obtain ⟨c, hc, rfl⟩ := List.mem_map.1 hx
  have := List.all_eq_true.1 hw c hc
  simp only [digB, decide_eq_true_eq] at this
  exact ⟨by show 1 ≤ 3; omega, by show c.toNat - 48 ≤ 9; omega⟩
theorem tkG_ok : ∀ (ns : List Nat) (w : List UInt8) (first : Bool), isF w = true → ∀ x ∈ tkG first w ns, x.1 ≤ 3 ∧ x.2 ≤ 9
  | [], w, first, _, x, hx => by cases hx
  | n :: ns, w, first, hw, x, hx => by
    unfold tkG at hx
    rcases List.mem_append.1 hx with hx | hx
    · rcases List.mem_append.1 hx with hx | hx
      · split at hx
        · cases hx
        · rw [List.mem_singleton.1 hx]; decide
      · exact dTok_ok (isF_take hw n) x hx
    · exact tkG_ok ns _ false (isF_drop hw n) x hx
theorem tkV_ok (ns : List Nat) (v : TVis) (hi : isF v.int = true) (hf : isF v.frac = true) : ∀ x ∈ tkV ns v, x.1 ≤ 3 ∧ x.2 ≤ 9 := fun x hx => by
  rcases List.mem_append.1 hx with hx | hx
  · exact tkG_ok ns v.int true hi x hx
  · split at hx
    · cases hx
    · rcases List.mem_cons.1 hx with rfl | hx
      · decide
      · exact dTok_ok hf x hx
theorem back_read (n : Int) (v : TVis) (last more : Int) (hi : isF v.int = true) (hf : isF v.frac = true) (hne : v.int = [] → v.frac ≠ []) :
    greadF (baseF n) (txtP (gwrF (baseF n) v last more)) = some (v.int, v.frac) := by
  unfold greadF
  rw [txt_gwr, Grd.read_run _ _ _ _ (Nat.le_refl _) (plainlyK n _ (tkV_ok _ v hi hf)), back_run (baseF n) v last more (gokB n).mg.1 hi hf hne]
def d1T (t : TTab) (c : UInt8) : List UInt8 := (dsT t).getD (c.toNat - 48) [0]
def lwrF (t : TTab) (v : TVis) (last more : Int) : List Part := lwF (d1T t) t.comma v.int last more t.minGroup ++ fracP t v
theorem wrG_eq {f g : List UInt8 → List UInt8} (c : List UInt8) (h : ∀ w, isF w = true → f w = g w) : ∀ (ns : List Nat) (w : List UInt8) (b : Bool), isF w = true → wrG f c b w ns = wrG g c b w ns
  | [], w, b, _ => rfl
  | n :: ns, w, b, hw => by simp only [wrG, h _ (isF_take hw n), wrG_eq c h ns _ false (isF_drop hw n)]
theorem dig_get (t : TTab) {c : UInt8} (h : digB c = true) : ∃ d, (dsT t)[c.toNat - 48]? = some d := by
  simp only [digB, decide_eq_true_eq] at h
  exact ⟨_, List.getElem?_eq_getElem (by show _ < 10; omega)⟩
theorem flat_wr (t : TTab) : ∀ w, isF w = true → w.flatMap (d1T t) = wrSet (dsT t) w
  | [], _ => rfl
  | c :: w, h => by
    have hc := isF_cons h
    have ih := flat_wr t w hc.2
    obtain ⟨d, hd⟩ := dig_get t hc.1
    unfold wrSet at *
    simp only [List.flatMap_cons, ih]
    unfold d1T
    rw [List.getD_eq_getElem?_getD, List.getD_eq_getElem?_getD, hd]
    rfl
theorem lwr_eq (t : TTab) (k : t.gok) (v : TVis) (last more : Int) (hi : isF v.int = true) : lwrF t v last more = gwrF t v last more := by
  unfold lwrF gwrF
  rw [Gpl.groups_eq (d1T t) (fun c => ?_) t.comma v.int last more t.minGroup k.mg.1, wrG_eq t.comma (flat_wr t) _ _ _ hi]
  unfold d1T
  rw [List.getD_eq_getElem?_getD]
  cases h : (dsT t)[c.toNat - 48]? with
  | none => simp
  | some d =>
    have := (k.dl d (List.mem_of_getElem? h)).2
    rw [Option.getD_some]
    intro e
    rw [e] at this
    simp at this
end Go.Proofs.YtpbjjhpihhnomaaGreatDoor

namespace Go.Proofs.YtpbjjhpihhnomaaGreatDoor
open Go Go.Abs
attribute [local irreducible] DrawW CallW RetW AC Does CmpW
variable {G : Globs}
open Gpl (Part lwF lwG)
theorem LWrite_does (t : TTab) (R : List AV) (v : TVis) (last more : Int) (h1 : -1000 ≤ last ∧ last ≤ 1000) (h2 : -1000 ≤ more ∧ more ≤ 1000) (k : t.gok)
    (hi : isF v.int = true) (hf : isF v.frac = true) (hl : v.int.length ≤ 1000 ∧ v.frac.length ≤ 1000) :
    Does Tryz.prog G 20 [.fptr (tabC t ++ R), .agg (visC v), .int .i64 last, .int .i64 more] [] fun ae _ => ae = .ret (.fsl ((lwrF t v last more).map encPt)) := by
  obtain ⟨gr, hgr⟩ : ∃ gr : Bool, gr = decide (0 < last ∧ last + t.minGroup ≤ v.int.length) := ⟨_, rfl⟩
  obtain ⟨mo, hmo⟩ : ∃ mo : Int, mo = if more < 1 then last else more := ⟨_, rfl⟩
  have hmo0 : gr = true → 1 ≤ mo ∧ mo ≤ 1000 := fun h => by
    rw [hgr, decide_eq_true_eq] at h
    rw [hmo]; split <;> omega
  have hmob : -1000 ≤ mo ∧ mo ≤ 1000 := by rw [hmo]; split <;> omega
  have hla0 : gr = true → 1 ≤ last := fun h => by
    rw [hgr, decide_eq_true_eq] at h
    omega
  obtain ⟨B, hB⟩ : ∃ B : Nat → Bool, B = if gr = true then Gpl.bnd last.toNat mo.toNat else fun _ => false := ⟨_, rfl⟩
  have hF0 : lwF (d1T t) t.comma v.int last more t.minGroup = lwG (d1T t) t.comma B true [] v.int := by
    unfold lwF
    rw [hB, hgr, hmo]
    simp only [decide_eq_true_eq]
  have kmg := k.mg
  unfold lwrF
  rw [hF0]
  clear hF0
  refine Does.bodyA tab Tryz.func20 rfl rfl ?_
  refine AC.step tab ?_
  refine gos ?_
  intro v1
  refine gos ?_
  refine AC.wk (Wk.ptr (k := 5) (i := 0) rfl rfl rfl rfl rfl) ?_
  refine AC.step tab ?_
  refine gos ?_
  intro v2
  refine gos ?_
  refine AC.step tab ?_
  refine gos ?_
  refine AC.step tab ?_
  refine gos ?_
  refine AC.cutF tab (fun e h => ∃ gb : Bool, gb = gr ∧ e = ([.fptr (tabC t ++ R)] ++ List.replicate 1 .any ++ [.int .i64 last, .int .i64 more] ++ List.replicate 1 .any ++ [.fptr (visC v)] ++ List.replicate 3 .any ++ [.sl 1 v2, .str [], .int .i64 v.int.length, .bool gb] ++ List.replicate 120 .any) ∧ h = [none, some ⟨v2, 33, 2, []⟩]) ?_ ?_
  · refine gos ?_
    by_cases g1 : 0 < last
    · refine CmpW.t (by simp [g1]) ?_
      refine gos ?_
      refine CmpW.s ?_
      refine gos ?_
      exact ⟨_, 2, fgts, _, by rw [hgr]; simp [g1], rfl, rfl⟩
    · refine CmpW.f (by simp; omega) ?_
      refine gos ?_
      exact ⟨_, 2, fgts, _, by rw [hgr]; simp [g1], rfl, rfl⟩
  rintro e h ⟨gb, hgb, rfl, rfl⟩
  rw [hgb]
  clear hgb
  refine AC.cutF tab (fun e h => e = ([.fptr (tabC t ++ R)] ++ List.replicate 1 .any ++ [.int .i64 last, .int .i64 mo] ++ List.replicate 1 .any ++ [.fptr (visC v)] ++ List.replicate 3 .any ++ [.sl 1 v2, .str [], .int .i64 v.int.length, .bool gr] ++ List.replicate 120 .any) ∧ h = [none, some ⟨v2, 33, 2, []⟩]) ?_ ?_
  · refine gos ?_
    by_cases g1 : more < 1
    · refine CmpW.t (by simp [g1]) ?_
      refine gos ?_
      rw [if_pos g1] at hmo
      subst hmo
      exact ⟨_, 2, fgts, rfl, rfl⟩
    · refine CmpW.f (by simp; omega) ?_
      refine gos ?_
      rw [if_neg g1] at hmo
      subst hmo
      exact ⟨_, 2, fgts, rfl, rfl⟩
  rintro e h ⟨rfl, rfl⟩
  refine AC.cutF tab (fun e h => ∃ (va : Nat) (dn : List Part) (run : List UInt8), dn.length ≤ 2 * v.int.length ∧ run.length ≤ 60 * v.int.length ∧ lwG (d1T t) t.comma B true [] v.int = dn ++ (if run = [] then [] else [⟨1, run⟩]) ∧
      e = ([.fptr (tabC t ++ R)] ++ List.replicate 4 .any ++ [.fptr (visC v)] ++ List.replicate 3 .any ++ [.sl 1 va, .str run] ++ List.replicate 122 .any) ∧ h = [none, some ⟨va, 33, 2, dn.map encPt⟩]) ?_ ?_
  · refine gos ?_
    refine AC.loopC tab (fun f e h => ∃ (i va : Nat) (lf : Int) (dn : List Part) (run : List UInt8), f + i = v.int.length + 1 ∧ i ≤ v.int.length ∧ lf = (v.int.length : Int) - i ∧ dn.length ≤ 2 * i ∧ run.length ≤ 60 * i ∧
        lwG (d1T t) t.comma B true [] v.int = dn ++ lwG (d1T t) t.comma B (decide (i = 0)) run (v.int.drop i) ∧
        e = ([.fptr (tabC t ++ R)] ++ List.replicate 1 .any ++ [.int .i64 last, .int .i64 mo] ++ List.replicate 1 .any ++ [.fptr (visC v)] ++ List.replicate 3 .any ++ [.sl 1 va, .str run, .int .i64 lf, .bool gr, .int .i64 i] ++ List.replicate 119 .any) ∧ h = [none, some ⟨va, 33, 2, dn.map encPt⟩]) (v.int.length + 1)
      ⟨_, fgts, 0, v2, _, [], [], by omega, by omega, by omega, by simp, by simp, rfl, rfl, rfl⟩ ?_
    rintro f e h ⟨i, va, lf, dn, run, hfi, hi1, hlf, hdl, hrl, hF, rfl, rfl⟩
    refine gos ?_
    by_cases hlt : i < v.int.length
    · obtain ⟨c, hc⟩ : ∃ c, v.int[i]? = some c := ⟨_, List.getElem?_eq_getElem hlt⟩
      have hcb : digB c = true := List.all_eq_true.1 hi c (List.mem_of_getElem? hc)
      obtain ⟨d, hdg⟩ := dig_get t hcb
      have hdl2 := (k.dl d (List.mem_of_getElem? hdg)).1
      have hd1 : d1T t c = d := by unfold d1T; rw [List.getD_eq_getElem?_getD, hdg]; rfl
      simp only [digB, decide_eq_true_eq] at hcb
      have ld : (dn.map encPt).length = dn.length := by simp
      rw [drop_cons' hc] at hF
      simp only [lwG, hd1] at hF
      have hwl : (v.int.drop (i + 1)).length + 1 = v.int.length - i := by rw [List.length_drop]; omega
      rw [hwl] at hF
      have hno : (i ≠ 0 → B (v.int.length - i) = false) → lwG (d1T t) t.comma B true [] v.int = dn ++ lwG (d1T t) t.comma B (decide (i + 1 = 0)) (run ++ d) (v.int.drop (i + 1)) := fun h => by
        rw [hF]
        by_cases h0 : i = 0
        · simp [h0]
        · simp [h0, h h0]
      have hyes : (i ≠ 0 ∧ B (v.int.length - i) = true) → lwG (d1T t) t.comma B true [] v.int = (dn ++ [⟨1, run⟩, ⟨2, t.comma⟩]) ++ lwG (d1T t) t.comma B (decide (i + 1 = 0)) d (v.int.drop (i + 1)) := fun h => by
        rw [hF]
        simp [h.1, h.2]
      refine CmpW.T ?_
      cases hg : gr with
      | false =>
        have hn : i ≠ 0 → B (v.int.length - i) = false := fun _ => by rw [hB, hg]; rfl
        refine gos ?_
        refine DrawW.L ?_
        refine gos ?_
        refine And.intro (by omega) ⟨c, by rw [Int.toNat_natCast]; exact hc, ?_⟩
        refine gos ?_
        rw [show IntKind.u8.wrap ((c.toNat : Int) - 48) = ((c.toNat - 48 : Nat) : Int) from by rw [wrap_u8 (by omega) (by omega)]; omega]
        refine And.intro (And.intro (by omega) (by omega)) (idx_more (ds := dsT t) (rest := (tabC t).drop 10 ++ R) hdg fun q => ?_)
        refine gos ?_
        refine And.intro (by simp; omega) ?_
        refine gos ?_
        exact ⟨f - 1, _, 2, by omega, fgts, i + 1, va, _, dn, run ++ d, by omega, by omega, by omega, by omega, by rw [List.length_append]; omega, hno hn, rfl, rfl⟩
      | true =>
        have hm1 := hmo0 hg
        have hl1 := hla0 hg
        obtain ⟨LL, hLL⟩ : ∃ x : Nat, last = x := ⟨last.toNat, by omega⟩
        obtain ⟨MM, hMM⟩ : ∃ x : Nat, mo = x := ⟨mo.toNat, by omega⟩
        have hBb : B (v.int.length - i) = Gpl.bnd LL MM (v.int.length - i) := by rw [hB, if_pos hg, hLL, hMM, Int.toNat_natCast, Int.toNat_natCast]
        by_cases h0 : i = 0
        · have hn : i ≠ 0 → B (v.int.length - i) = false := fun h => absurd h0 h
          refine gos ?_
          refine CmpW.f (by simp [h0]) ?_
          refine gos ?_
          refine DrawW.L ?_
          refine gos ?_
          refine And.intro (by omega) ⟨c, by rw [Int.toNat_natCast]; exact hc, ?_⟩
          refine gos ?_
          rw [show IntKind.u8.wrap ((c.toNat : Int) - 48) = ((c.toNat - 48 : Nat) : Int) from by rw [wrap_u8 (by omega) (by omega)]; omega]
          refine And.intro (And.intro (by omega) (by omega)) (idx_more (ds := dsT t) (rest := (tabC t).drop 10 ++ R) hdg fun q => ?_)
          refine gos ?_
          refine And.intro (by simp; omega) ?_
          refine gos ?_
          exact ⟨f - 1, _, 2, by omega, fgts, i + 1, va, _, dn, run ++ d, by omega, by omega, by omega, by omega, by rw [List.length_append]; omega, hno hn, rfl, rfl⟩
        · refine gos ?_
          refine CmpW.t (by simp; omega) ?_
          refine gos ?_
          by_cases h2 : lf = last
          · have hy : i ≠ 0 ∧ B (v.int.length - i) = true := ⟨h0, by rw [hBb]; unfold Gpl.bnd; simp; omega⟩
            refine CmpW.t (by simp [h2]) ?_
            refine gos ?_
            intro v5
            refine gos ?_
            refine And.intro (And.intro (fun y hy => by simp only [List.mem_cons, List.not_mem_nil, or_false] at hy; rcases hy with rfl | rfl <;> rfl) (fun y hy => by simp only [List.mem_cons, List.not_mem_nil, or_false] at hy; rcases hy with rfl | rfl <;> rfl)) ?_
            refine gos ?_
            refine gobnd ?_
            intro v6
            refine gos ?_
            refine DrawW.L ?_
            refine gos ?_
            refine And.intro (by omega) ⟨c, by rw [Int.toNat_natCast]; exact hc, ?_⟩
            refine gos ?_
            rw [show IntKind.u8.wrap ((c.toNat : Int) - 48) = ((c.toNat - 48 : Nat) : Int) from by rw [wrap_u8 (by omega) (by omega)]; omega]
            refine And.intro (And.intro (by omega) (by omega)) (idx_more (ds := dsT t) (rest := (tabC t).drop 10 ++ R) hdg fun q => ?_)
            refine gos ?_
            refine And.intro (by simp; omega) ?_
            refine gos ?_
            exact ⟨f - 1, _, 2, by omega, fgts, i + 1, _, _, dn ++ [⟨1, run⟩, ⟨2, t.comma⟩], d, by omega, by omega, by omega, by simp only [List.length_append, List.length_cons, List.length_nil]; omega, by omega, hyes hy, rfl, by rw [List.map_append]; rfl⟩
          · refine CmpW.f (by simpa using h2) ?_
            refine gos ?_
            by_cases h3 : last < lf
            · have e4 : (lf - last).tmod mo = (((v.int.length - i - LL) % MM : Nat) : Int) := by
                rw [show lf - last = ((v.int.length - i - LL : Nat) : Int) by omega, hMM, ← Int.ofNat_tmod]
              refine CmpW.t (by simp; omega) ?_
              refine gos ?_
              refine And.intro (by omega) ⟨_, e4, ?_⟩
              refine gos ?_
              by_cases h4 : (v.int.length - i - LL) % MM = 0
              · have hy : i ≠ 0 ∧ B (v.int.length - i) = true := ⟨h0, by rw [hBb]; unfold Gpl.bnd; simp [h4]; omega⟩
                refine CmpW.t (by simp [h4]) ?_
                refine gos ?_
                intro v5
                refine gos ?_
                refine And.intro (And.intro (fun y hy => by simp only [List.mem_cons, List.not_mem_nil, or_false] at hy; rcases hy with rfl | rfl <;> rfl) (fun y hy => by simp only [List.mem_cons, List.not_mem_nil, or_false] at hy; rcases hy with rfl | rfl <;> rfl)) ?_
                refine gos ?_
                refine gobnd ?_
                intro v6
                refine gos ?_
                refine DrawW.L ?_
                refine gos ?_
                refine And.intro (by omega) ⟨c, by rw [Int.toNat_natCast]; exact hc, ?_⟩
                refine gos ?_
                rw [show IntKind.u8.wrap ((c.toNat : Int) - 48) = ((c.toNat - 48 : Nat) : Int) from by rw [wrap_u8 (by omega) (by omega)]; omega]
                refine And.intro (And.intro (by omega) (by omega)) (idx_more (ds := dsT t) (rest := (tabC t).drop 10 ++ R) hdg fun q => ?_)
                refine gos ?_
                refine And.intro (by simp; omega) ?_
                refine gos ?_
                exact ⟨f - 1, _, 2, by omega, fgts, i + 1, _, _, dn ++ [⟨1, run⟩, ⟨2, t.comma⟩], d, by omega, by omega, by omega, by simp only [List.length_append, List.length_cons, List.length_nil]; omega, by omega, hyes hy, rfl, by rw [List.map_append]; rfl⟩
              · have hn : i ≠ 0 → B (v.int.length - i) = false := fun _ => by rw [hBb]; unfold Gpl.bnd; simp [h4]; omega
                refine CmpW.f (by simp; omega) ?_
                refine gos ?_
                refine DrawW.L ?_
                refine gos ?_
                refine And.intro (by omega) ⟨c, by rw [Int.toNat_natCast]; exact hc, ?_⟩
                refine gos ?_
                rw [show IntKind.u8.wrap ((c.toNat : Int) - 48) = ((c.toNat - 48 : Nat) : Int) from by rw [wrap_u8 (by omega) (by omega)]; omega]
                refine And.intro (And.intro (by omega) (by omega)) (idx_more (ds := dsT t) (rest := (tabC t).drop 10 ++ R) hdg fun q => ?_)
                refine gos ?_
                refine And.intro (by simp; omega) ?_
                refine gos ?_
                exact ⟨f - 1, _, 2, by omega, fgts, i + 1, va, _, dn, run ++ d, by omega, by omega, by omega, by omega, by rw [List.length_append]; omega, hno hn, rfl, rfl⟩
            · have hn : i ≠ 0 → B (v.int.length - i) = false := fun _ => by
                rw [hBb]; unfold Gpl.bnd
                rw [decide_eq_false (by omega), decide_eq_false (p := LL < v.int.length - i) (by omega)]
                rfl
              refine CmpW.f (by simp; omega) ?_
              refine gos ?_
              refine DrawW.L ?_
              refine gos ?_
              refine And.intro (by omega) ⟨c, by rw [Int.toNat_natCast]; exact hc, ?_⟩
              refine gos ?_
              rw [show IntKind.u8.wrap ((c.toNat : Int) - 48) = ((c.toNat - 48 : Nat) : Int) from by rw [wrap_u8 (by omega) (by omega)]; omega]
              refine And.intro (And.intro (by omega) (by omega)) (idx_more (ds := dsT t) (rest := (tabC t).drop 10 ++ R) hdg fun q => ?_)
              refine gos ?_
              refine And.intro (by simp; omega) ?_
              refine gos ?_
              exact ⟨f - 1, _, 2, by omega, fgts, i + 1, va, _, dn, run ++ d, by omega, by omega, by omega, by omega, by rw [List.length_append]; omega, hno hn, rfl, rfl⟩
    · refine CmpW.N ?_
      refine gos ?_
      rw [List.drop_of_length_le (by omega)] at hF
      exact ⟨_, 2, fgts, va, dn, run, by omega, by omega, hF, rfl, rfl⟩
  rintro e h ⟨va, dn, run, hdl, hrl, hF, rfl, rfl⟩
  have ld : (dn.map encPt).length = dn.length := by simp
  rw [hF]
  refine AC.cutF tab (fun e h => ∃ va, e = ([.fptr (tabC t ++ R)] ++ List.replicate 4 .any ++ [.fptr (visC v)] ++ List.replicate 3 .any ++ [.sl 1 va] ++ List.replicate 123 .any) ∧ h = [none, some ⟨va, 33, 2, (dn ++ (if run = [] then [] else [(⟨1, run⟩ : Part)])).map encPt⟩]) ?_ ?_
  · refine gos ?_
    by_cases h0 : run = []
    · refine CmpW.f (by simp [h0]) ?_
      refine gos ?_
      exact ⟨_, 2, fgts, va, rfl, by rw [if_pos h0, List.append_nil]; rfl⟩
    · refine CmpW.t (by simp [h0]) ?_
      refine gos ?_
      intro v5
      refine gos ?_
      refine And.intro (And.intro (fun y hy => by rw [List.mem_singleton.1 hy]; rfl) (fun y hy => by rw [List.mem_singleton.1 hy]; rfl)) ?_
      refine gos ?_
      refine gobnd ?_
      intro v6
      refine gos ?_
      exact ⟨_, 2, fgts, v6, rfl, by rw [if_neg h0, List.map_append]; rfl⟩
  rintro e h ⟨vb, rfl, rfl⟩
  obtain ⟨ps, hps⟩ : ∃ ps, ps = dn ++ (if run = [] then [] else [(⟨1, run⟩ : Part)]) := ⟨_, rfl⟩
  have hpl : ps.length ≤ 2 * v.int.length + 1 := by rw [hps, List.length_append]; split <;> simp <;> omega
  rw [← hps]
  clear hps hF
  have lps : (ps.map encPt).length = ps.length := by simp
  refine AC.cutA (fun e h => ∃ va, e = (List.replicate 9 .any ++ [.sl 1 va] ++ List.replicate 123 .any) ∧ h = [none, some ⟨va, 33, 2, (ps ++ fracP t v).map encPt⟩]) ?_ ?_
  · refine AC.step tab ?_
    refine gos ?_
    by_cases hf0 : v.frac = []
    · refine CmpW.f (by simp [hf0]) ?_
      refine gos ?_
      refine AC.condA ?_
      refine gos ?_
      refine AC.go tab ?_
      refine gos ?_
      exact ⟨_, 2, fgts, vb, rfl, by unfold fracP; rw [if_pos hf0, List.append_nil]; rfl⟩
    · refine CmpW.t (by simp [hf0]) ?_
      refine gos ?_
      refine AC.condA ?_
      refine gos ?_
      refine AC.step tab ?_
      refine gos ?_
      refine AC.cutF tab (fun e h => e = ([.fptr (tabC t ++ R)] ++ List.replicate 8 .any ++ [.sl 1 vb, .str (wrSet (dsT t) v.frac)] ++ List.replicate 122 .any) ∧ h = [none, some ⟨vb, 33, 2, ps.map encPt⟩]) ?_ ?_
      · refine gos ?_
        refine AC.loopC tab (fun f e h => ∃ (i : Nat) (w : List UInt8), f + i = v.frac.length + 1 ∧ i ≤ v.frac.length ∧ w = wrSet (dsT t) (v.frac.take i) ∧ e = ([.fptr (tabC t ++ R)] ++ List.replicate 4 .any ++ [.fptr (visC v)] ++ List.replicate 3 .any ++ [.sl 1 vb, .str w] ++ List.replicate 3 .any ++ [.int .i64 i] ++ List.replicate 118 .any) ∧ h = [none, some ⟨vb, 33, 2, ps.map encPt⟩]) (v.frac.length + 1) ⟨_, fgts, 0, [], by omega, by omega, rfl, rfl, rfl⟩ ?_
        rintro f e h ⟨i, w, hfi, hi1, hw, rfl, rfl⟩
        refine gos ?_
        by_cases hlt : i < v.frac.length
        · obtain ⟨c, hc⟩ : ∃ c, v.frac[i]? = some c := ⟨_, List.getElem?_eq_getElem hlt⟩
          have hcb : digB c = true := List.all_eq_true.1 hf c (List.mem_of_getElem? hc)
          obtain ⟨d, hdg⟩ := dig_get t hcb
          have hdl2 := (k.dl d (List.mem_of_getElem? hdg)).1
          simp only [digB, decide_eq_true_eq] at hcb
          have htake : wrSet (dsT t) (v.frac.take (i + 1)) = wrSet (dsT t) (v.frac.take i) ++ d := by
            unfold wrSet
            rw [List.take_add_one, hc]
            simp [List.getD_eq_getElem?_getD, hdg]
          have hlen := wrSet_len (fun d hd => (k.dl d hd).1) (v.frac.take i) (ds := dsT t)
          rw [← hw, List.length_take] at hlen
          rw [← hw] at htake
          refine CmpW.T ?_
          refine gos ?_
          refine DrawW.L ?_
          refine gos ?_
          refine And.intro (by omega) ⟨c, by rw [Int.toNat_natCast]; exact hc, ?_⟩
          refine gos ?_
          rw [show IntKind.u8.wrap ((c.toNat : Int) - 48) = ((c.toNat - 48 : Nat) : Int) from by rw [wrap_u8 (by omega) (by omega)]; omega]
          refine And.intro (And.intro (by omega) (by omega)) (idx_more (ds := dsT t) (rest := (tabC t).drop 10 ++ R) hdg fun q => ?_)
          refine gos ?_
          refine And.intro (by simp; omega) ?_
          refine gos ?_
          exact ⟨f - 1, _, 2, by omega, fgts, i + 1, _, by omega, by omega, htake.symm, rfl, rfl⟩
        · refine CmpW.N ?_
          refine gos ?_
          have : i = v.frac.length := by omega
          subst this
          rw [List.take_length] at hw
          subst hw
          exact ⟨_, 2, fgts, rfl, rfl⟩
      rintro e h ⟨rfl, rfl⟩
      refine AC.go tab ?_
      refine gos ?_
      intro v5
      refine gos ?_
      refine And.intro (And.intro (fun y hy => by simp only [List.mem_cons, List.not_mem_nil, or_false] at hy; rcases hy with rfl | rfl <;> rfl) (fun y hy => by simp only [List.mem_cons, List.not_mem_nil, or_false] at hy; rcases hy with rfl | rfl <;> rfl)) ?_
      refine gos ?_
      refine gobnd ?_
      intro v6
      refine gos ?_
      exact ⟨_, 2, fgts, v6, rfl, by unfold fracP; rw [if_neg hf0, List.map_append]; rfl⟩
  rintro e h ⟨va, rfl, rfl⟩
  refine AC.go tab ?_
  refine gos ?_
  refine RetW.wk (r' := .fsl ((ps ++ fracP t v).map encPt)) (by simp) ?_ (Wk.row (k := 0) (i := 1) (o := ⟨va, 33, 2, (ps ++ fracP t v).map encPt⟩) rfl rfl rfl (cLL_map (fun _ => rfl) _)) ?_
  · rfl
  rfl
end Go.Proofs.YtpbjjhpihhnomaaGreatDoor

namespace Go.Proofs.YtpbjjhpihhnomaaGreatDoor
open Go Go.Abs
attribute [local irreducible] DrawW CallW RetW AC Does CmpW
variable {m : Int}
open Gpl (Part)
open Grd (Tok sgn)
theorem tkG_len : ∀ (ns : List Nat) (w : List UInt8) (first : Bool), (tkG first w ns).length ≤ ns.length + w.length
  | [], w, first => by simp [tkG]
  | n :: ns, w, first => by
    have ih := tkG_len ns (w.drop n) false
    have h1 : (if first = true then ([] : List Tok) else [(2, 0)]).length ≤ 1 := by split <;> simp
    simp only [tkG, List.length_append, List.length_map, List.length_take, List.length_cons]
    rw [List.length_drop] at ih
    omega
theorem sgn_len {t : TTab} (k : t.gok) (x : Tok) : (sgn (grd t) x).length ≤ 60 := by
  obtain ⟨a, d⟩ := x
  unfold sgn
  dsimp only
  split
  · show (((dsT t)[d]?).getD []).length ≤ 60
    cases h : (dsT t)[d]? with
    | none => simp
    | some s => exact (k.dl s (List.mem_of_getElem? h)).1
  · exact k.cl
  · exact k.pl
  · simp
theorem toks_len {t : TTab} (k : t.gok) : ∀ ts : List Tok, (ts.flatMap (sgn (grd t))).length ≤ 60 * ts.length
  | [] => by simp
  | x :: ts => by
    have h1 := toks_len k ts
    have h2 := sgn_len k x
    simp only [List.flatMap_cons, List.length_append, List.length_cons]
    omega
theorem gwr_txt {t : TTab} (k : t.gok) (v : TVis) (last more : Int) : (txtP (gwrF t v last more)).length ≤ 60 * (2 * v.int.length + v.frac.length + 3) := by
  rw [txt_gwr]
  have h1 := toks_len k (tkV (Gpl.cutsF v.int.length last more t.minGroup) v)
  have h2 := tkG_len (Gpl.cutsF v.int.length last more t.minGroup) v.int true
  have h3 := cuts_len v.int.length last more t.minGroup
  have h4 : (tkV (Gpl.cutsF v.int.length last more t.minGroup) v).length ≤ (tkG true v.int (Gpl.cutsF v.int.length last more t.minGroup)).length + v.frac.length + 1 := by
    unfold tkV
    rw [List.length_append]
    split <;> simp only [List.length_nil, List.length_cons, List.length_map] <;> omega
  omega
theorem shown_ne (a b : List UInt8) : (shownF a b).int = [] → (shownF a b).frac ≠ [] := by
  unfold shownF
  dsimp only
  intro h
  split at h
  · cases h
  · next hn =>
    have ha : a = [] := by simpa using h
    intro hb
    exact hn ⟨ha, by simpa using hb⟩
theorem tm12 (x : Int) : -11 ≤ x.tmod 12 ∧ x.tmod 12 ≤ 11 := by
  have h := Int.natAbs_tmod x 12
  have : (12 : Int).natAbs = 12 := rfl
  rw [this] at h
  omega
theorem GroupWrites_does (n : Int) (a b : List UInt8) (ha : a.length ≤ 140737488355328) (hb : b.length ≤ 140737488355328) (last more : Int) (neg : Bool) :
    Does Tryz.prog (GL m) 5 [.int .i64 n, .fsl (byteEs' a), .fsl (byteEs' b), .int .i64 last, .int .i64 more, .bool neg] [] fun ae _ => ae = .ret (.bool true) := by
  have la : (byteEs' a).length = a.length := by simp [byteEs']
  have lb : (byteEs' b).length = b.length := by simp [byteEs']
  refine Does.bodyA tab Tryz.func5 rfl rfl ?_
  refine AC.step tab ?_
  refine gos ?_
  refine AC.step tab ?_
  refine gos ?_
  refine CallW.pure head18_does rfl rfl ?_
  refine gos ?_
  refine AC.step tab ?_
  refine gos ?_
  rw [la]
  by_cases ha60 : 60 < a.length
  · refine CmpW.t (by simp; omega) ?_
    refine gos ?_
    refine RetW.plain (by simp) ?_
    rfl
  refine CmpW.f (by simp; omega) ?_
  refine gos ?_
  rw [lb]
  by_cases hb60 : 60 < b.length
  · refine CmpW.t (by simp; omega) ?_
    refine gos ?_
    refine RetW.plain (by simp) ?_
    rfl
  refine CmpW.f (by simp; omega) ?_
  refine gos ?_
  have k := gokB n
  have dB := Base18_does (m := m) n
  have so := shown_ok a b
  have sl := shown_len a b
  have hne := shown_ne a b
  obtain ⟨L0, hL0⟩ : ∃ x : Int, x = last.tmod 12 := ⟨_, rfl⟩
  obtain ⟨M0, hM0⟩ : ∃ x : Int, x = more.tmod 12 := ⟨_, rfl⟩
  have bl := tm12 last
  have bm := tm12 more
  rw [← hL0] at bl
  rw [← hM0] at bm
  obtain ⟨w, hw⟩ : ∃ w : TVis, w = ⟨neg, (shownF a b).int, (shownF a b).frac⟩ := ⟨_, rfl⟩
  have hread := back_read n w (L0 - 2) (M0 - 2) (by rw [hw]; exact so.1) (by rw [hw]; exact so.2) (by rw [hw]; exact hne)
  have dS := Shown_does (G := GL m) a b (by omega) (by omega)
  generalize shownF a b = v at *
  have hwc : visC w = [.bool neg, .str v.int, .str v.frac] := by rw [hw]; rfl
  have hwi : w.int = v.int := by rw [hw]
  have hwf : w.frac = v.frac := by rw [hw]
  have dW := GWrite_does (G := GL m) (baseF n) (restB n) w (L0 - 2) (M0 - 2) (by omega) (by omega) k.mg (by rw [hwi]; exact so.1) (by rw [hwf]; exact so.2) (by rw [hwi, hwf]; omega) (fun d hd => (k.dl d hd).1)
  have dL := LWrite_does (G := GL m) (baseF n) (restB n) w (L0 - 2) (M0 - 2) (by omega) (by omega) k (by rw [hwi]; exact so.1) (by rw [hwf]; exact so.2) (by rw [hwi, hwf]; omega)
  rw [lwr_eq (baseF n) k w (L0 - 2) (M0 - 2) (by rw [hwi]; exact so.1)] at dL
  have ht := gwr_txt k w (L0 - 2) (M0 - 2)
  have hLl : (gwrF (baseF n) w (L0 - 2) (M0 - 2)).length ≤ 5000 := by
    have h5 := wrG_len (wrSet (dsT (baseF n))) (baseF n).comma (Gpl.cutsF w.int.length (L0 - 2) (M0 - 2) (baseF n).minGroup) true w.int
    have h6 := cuts_len w.int.length (L0 - 2) (M0 - 2) (baseF n).minGroup
    unfold gwrF fracP
    rw [List.length_append]
    rw [hwi] at h5 h6 ⊢
    split <;> simp only [List.length_cons, List.length_nil] <;> omega
  have dSm := Same18_parts (G := GL m) (gwrF (baseF n) w (L0 - 2) (M0 - 2)) (by omega)
  have dT := GText_does (G := GL m) (gwrF (baseF n) w (L0 - 2) (M0 - 2)) (by omega) (by rw [hwi, hwf] at ht; omega)
  have dR := GRead_does (m := m) (baseF n) (restB n) (txtP (gwrF (baseF n) w (L0 - 2) (M0 - 2))) (by rw [hwi, hwf] at ht; omega) k.cl k.pl
  rw [hread] at dR
  rw [show rdV (some (w.int, w.frac)) = .tuple [.agg [.bool false, .str v.int, .str v.frac], .bool true] from by rw [hwi, hwf]; rfl] at dR
  rw [hwc] at dW dL
  clear ht hread hLl
  generalize gwrF (baseF n) w (L0 - 2) (M0 - 2) = L at *
  generalize restB n = R at *
  generalize baseF n = t at *
  refine AC.step tab ?_
  refine gos ?_
  refine CallW.pure dB rfl rfl ?_
  refine gos ?_
  refine AC.step tab ?_
  refine gos ?_
  refine AC.step tab ?_
  refine gos ?_
  refine CallW.pure dS rfl rfl ?_
  refine gos ?_
  intro v1
  refine gos ?_
  refine AC.step tab ?_
  refine gos ?_
  refine AC.step tab ?_
  refine gos ?_
  refine And.intro (by decide) ⟨L0, by rw [hL0], ?_⟩
  refine gos ?_
  refine AC.step tab ?_
  refine gos ?_
  refine And.intro (by decide) ⟨M0, by rw [hM0], ?_⟩
  refine gos ?_
  refine AC.step tab ?_
  refine gos ?_
  refine CallW.pure dW rfl rfl ?_
  refine gos ?_
  refine AC.step tab ?_
  refine gos ?_
  refine CallW.pure dL rfl rfl ?_
  refine gos ?_
  refine CallW.pure dSm rfl rfl ?_
  refine gos ?_
  refine AC.step tab ?_
  refine gos ?_
  refine CallW.pure dT rfl rfl ?_
  refine gos ?_
  refine CallW.pure dR rfl rfl ?_
  refine gos ?_
  intro v2
  refine gos ?_
  refine AC.step tab ?_
  refine gos ?_
  refine AC.go tab ?_
  refine gos ?_
  refine CmpW.t (by simp) ?_
  refine gos ?_
  refine RetW.plain (by simp) ?_
  rfl
end Go.Proofs.YtpbjjhpihhnomaaGreatDoor
