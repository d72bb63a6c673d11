/- The three tables: well formed, and small. -/
import Derived.Test.YtpbjjhpihhnomaaGreatDoorJ07
import Derived.Test.YtpbjjhpihhnomaaGreatDoorJ21
import Derived.Test.YtpbjjhpihhnomaaGreatDoorJ34
import Derived.Test.YtpbjjhpihhnomaaGreatDoorJ22
set_option linter.unusedVariables false
set_option linter.unusedSimpArgs false
set_option maxRecDepth 100000
set_option maxHeartbeats 4000000

namespace Go.Proofs.YtpbjjhpihhnomaaGreatDoor
open Go Go.Abs Go.Opn
theorem slice_cells {P : Program} {W : World} {base : Nat} {r : Reach} {t e : TypeId} {v : Value} (ht : P.underlying t = some (.slice e)) (h : Value.okWide P W r base t v) : v.cells.toList = [v] := by
  obtain ⟨a, l, c, rfl⟩ := Go.WideShapes.okWide_slice ht h; rfl
def byE (z : Int) : List AV := [.int .u8 z]
theorem oBytes : Opnd Tryz.prog 22 1 (fun l : List Int => [.fsl (l.map byE)]) (fun l => l.length ≤ 140737488355328 ∧ ∀ z ∈ l, 0 ≤ z ∧ z ≤ 255) :=
  (Opnd.slice Tryz.underlying22 (by kernel_rfl) (by omega) (of_decide_eq_true (by kernel_rfl)) (Opnd.int Tryz.underlying5 (by kernel_rfl))).map id (fun _ => rfl) (fun x h => ⟨reach_le h.1, fun z hz => by
    have h1 := h.2 z hz
    rw [Lit.wf, Bool.and_eq_true] at h1
    have h2 : (0 : Int) ≤ z := of_decide_eq_true h1.1
    have h3 : z ≤ (255 : Int) := of_decide_eq_true h1.2
    exact ⟨h2, h3⟩⟩)
theorem byE_eq (l : List Int) (h : ∀ z ∈ l, 0 ≤ z ∧ z ≤ 255) : l.map byE = byteEs' (l.map fun z => UInt8.ofNat z.toNat) := by
  unfold byteEs'
  rw [List.map_map]
  refine List.map_congr_left fun z hz => ?_
  have := h z hz
  show [AV.int .u8 z] = [AV.int .u8 ((UInt8.ofNat z.toNat).toNat : Int)]
  rw [UInt8.toNat_ofNat', Nat.mod_eq_of_lt (by omega)]
  rw [Int.toNat_of_nonneg this.1]
end Go.Proofs.YtpbjjhpihhnomaaGreatDoor

namespace Go.Proofs.YtpbjjhpihhnomaaGreatDoor
open Go Go.Abs
attribute [local irreducible] DrawW CallW RetW AC Does CmpW
variable {m : Int}
open Grd (nextF readF stepF St)
theorem oneF_ne {s : List UInt8} (h : oneF s = true) : s ≠ [] := fun e => by subst e; revert h; decide
theorem gnext_kind (t : TTab) (s : List UInt8) : (nextF (grd t) s).1 ≤ 3 ∧ ((nextF (grd t) s).1 ≠ 0 → 0 < (nextF (grd t) s).2.2 ∧ (nextF (grd t) s).2.2 ≤ s.length) ∧ (nextF (grd t) s).2.1 < 10 := by
  unfold nextF
  rw [digOne_son]
  cases h : sonL s (grd t).dg 0 with
  | some r =>
    obtain ⟨d, n⟩ := r
    have h1 := sonL_lt h
    have h2 : (grd t).dg.length = 10 := rfl
    refine ⟨Nat.le_of_ble_eq_true rfl, fun _ => ⟨h1.2.2, h1.2.1⟩, ?_⟩
    show d < 10
    omega
  | none =>
    by_cases h1 : ((grd t).oneC && (grd t).comma.isPrefixOf s) = true
    · simp only [h1, if_true]
      rw [Bool.and_eq_true] at h1
      exact ⟨by decide, fun _ => ⟨List.length_pos_iff.2 (oneF_ne h1.1), (List.isPrefixOf_iff_prefix.1 h1.2).length_le⟩, by decide⟩
    · simp only [h1, Bool.false_eq_true, if_false]
      by_cases h2 : ((grd t).oneP && (grd t).point.isPrefixOf s) = true
      · simp only [h2, if_true]
        rw [Bool.and_eq_true] at h2
        exact ⟨by decide, fun _ => ⟨List.length_pos_iff.2 (oneF_ne h2.1), (List.isPrefixOf_iff_prefix.1 h2.2).length_le⟩, by decide⟩
      · simp only [h2, Bool.false_eq_true, if_false]
        exact ⟨by decide, fun h => absurd rfl h, by decide⟩
theorem readF_step {l : Grd.Loc} {g : Nat} {x : St} {s : List UInt8} (hs : s ≠ []) : readF l (g + 1) x s = match stepF x (nextF l s).1 (nextF l s).2.1 with | none => none | some y => readF l g y (s.drop (nextF l s).2.2) := by
  cases s with
  | nil => exact absurd rfl hs
  | cons c s =>
    conv => lhs; unfold readF
    cases stepF x (nextF l (c :: s)).1 (nextF l (c :: s)).2.1 <;> rfl
def rdV : Option (List UInt8 × List UInt8) → AV
  | some (a, b) => .tuple [.agg (visC ⟨false, a, b⟩), .bool true]
  | none => .tuple [.agg (visC ⟨false, [], []⟩), .bool false]
def greadF (t : TTab) (s : List UInt8) : Option (List UInt8 × List UInt8) := readF (grd t) s.length St.init s
theorem GRead_does (t : TTab) (R : List AV) (s0 : List UInt8) (hs0 : s0.length < 500000) (hc : t.comma.length ≤ 60) (hp : t.point.length ≤ 60) :
    Does Tryz.prog (GL m) 18 [.fptr (tabC t ++ R), .str s0] [] fun ae _ => ae = .ret (rdV (greadF t s0)) := by
  obtain ⟨RF, hRF⟩ : ∃ RF, RF = greadF t s0 := ⟨_, rfl⟩
  rw [← hRF]
  refine Does.bodyA tab Tryz.func18 rfl rfl ?_
  refine AC.step tab ?_
  refine gos ?_
  intro v0
  refine gos ?_
  refine AC.step tab ?_
  refine gos ?_
  intro v1
  refine gos ?_
  refine AC.step tab ?_
  refine gos ?_
  refine AC.step tab ?_
  refine gos ?_
  refine AC.cutF tab (fun e h => ∃ (x : St), RF = readF (grd t) 0 x [] ∧ e = (List.replicate 4 .any ++ [.ptr 0 v0 0 0] ++ List.replicate 1 .any ++ [.ptr 1 v1 0 0] ++ List.replicate 1 .any ++ [.int .i64 x.last] ++ List.replicate 69 .any) ∧ h = [some ⟨v0, 27, 3, [[.bool false, .str [], .str []]]⟩, some ⟨v1, 27, 3, [[.bool false, .str x.int, .str x.frac]]⟩]) ?_ ?_
  · refine gos ?_
    refine AC.loopC tab (fun f e h => ∃ (x : St) (s : List UInt8) (g : Nat), f = s.length + 1 ∧ s.length ≤ g ∧ s.length < 500000 ∧ x.int.length + x.frac.length + s.length < 1000000 ∧ RF = readF (grd t) g x s ∧
        e = ([.fptr (tabC t ++ R), .str s] ++ List.replicate 2 .any ++ [.ptr 0 v0 0 0] ++ List.replicate 1 .any ++ [.ptr 1 v1 0 0, .bool x.pt, .int .i64 x.last] ++ List.replicate 69 .any) ∧
        h = [some ⟨v0, 27, 3, [[.bool false, .str [], .str []]]⟩, some ⟨v1, 27, 3, [[.bool false, .str x.int, .str x.frac]]⟩]) (s0.length + 1)
      ⟨_, fgts, St.init, s0, s0.length, rfl, Nat.le_refl _, hs0, by simp [St.init]; omega, hRF, rfl, rfl⟩ ?_
    rintro f e h ⟨x, s, g, hf, hg, hsl, hxl, hF, rfl, rfl⟩
    refine gos ?_
    by_cases hs : s = []
    · subst hs
      refine CmpW.N ?_
      refine gos ?_
      refine ⟨_, 2, fgts, x, ?_, rfl, rfl⟩
      rw [hF]
      cases g <;> rfl
    · refine CmpW.t (by simp [hs]) ?_
      have hs1 : 0 < s.length := List.length_pos_iff.2 hs
      obtain ⟨g, rfl⟩ : ∃ g', g = g' + 1 := ⟨g - 1, by omega⟩
      rw [readF_step hs] at hF
      have hk := gnext_kind t s
      have dN := gnext_does (m := m) t R s (by omega) hc hp
      generalize nextF (grd t) s = r at hF hk dN
      obtain ⟨k, d, n⟩ := r
      obtain ⟨pt, la, xi, xf⟩ := x
      simp only at hF hk hxl
      have hk4 : k = 0 ∨ k = 1 ∨ k = 2 ∨ k = 3 := by omega
      rcases hk4 with rfl | rfl | rfl | rfl
      · refine gos ?_
        refine CallW.pure dN rfl rfl ?_
        refine gos ?_
        refine RetW.plain (by simp) ?_
        rw [hF]; rfl
      · have hn := hk.2.1 (by omega)
        rw [show nxV (1, d, n) = .tuple [.int .i64 1, .str [UInt8.ofNat (48 + d)], .int .i64 (n : Int)] from rfl] at dN
        refine gos ?_
        refine CallW.pure dN rfl rfl ?_
        cases pt with
        | true =>
          refine gos ?_
          refine And.intro (by simp; omega) ?_
          refine gos ?_
          refine DrawW.L ?_
          refine gos ?_
          refine And.intro ⟨by omega, by omega⟩ ?_
          refine gos ?_
          rw [Int.toNat_natCast]
          have hdl : (s.drop n).length = s.length - n := List.length_drop
          exact ⟨(s.drop n).length + 1, _, 2, by omega, fgts, ⟨true, 1, xi, xf ++ [UInt8.ofNat (48 + d)]⟩, s.drop n, g, rfl, by omega, by omega, by simp; omega, by rw [hF]; simp [stepF], rfl, rfl⟩
        | false =>
          refine gos ?_
          refine And.intro (by simp; omega) ?_
          refine gos ?_
          refine DrawW.L ?_
          refine gos ?_
          refine And.intro ⟨by omega, by omega⟩ ?_
          refine gos ?_
          rw [Int.toNat_natCast]
          have hdl : (s.drop n).length = s.length - n := List.length_drop
          exact ⟨(s.drop n).length + 1, _, 2, by omega, fgts, ⟨false, 1, xi ++ [UInt8.ofNat (48 + d)], xf⟩, s.drop n, g, rfl, by omega, by omega, by simp; omega, by rw [hF]; simp [stepF], rfl, rfl⟩
      · have hn := hk.2.1 (by omega)
        rw [show nxV (2, d, n) = .tuple [.int .i64 2, .str [], .int .i64 (n : Int)] from rfl] at dN
        refine gos ?_
        refine CallW.pure dN rfl rfl ?_
        cases pt with
        | true =>
          refine gos ?_
          refine RetW.plain (by simp) ?_
          rw [hF]; rfl
        | false =>
          refine gos ?_
          by_cases hl : la = 1
          · subst hl
            refine CmpW.f rfl ?_
            refine gos ?_
            refine DrawW.L ?_
            refine gos ?_
            refine And.intro ⟨by omega, by omega⟩ ?_
            refine gos ?_
            rw [Int.toNat_natCast]
            have hdl : (s.drop n).length = s.length - n := List.length_drop
            exact ⟨(s.drop n).length + 1, _, 2, by omega, fgts, ⟨false, 2, xi, xf⟩, s.drop n, g, rfl, by omega, by omega, by dsimp only; omega, by rw [hF]; simp [stepF], rfl, rfl⟩
          · refine CmpW.t (by simp; omega) ?_
            refine gos ?_
            refine RetW.plain (by simp) ?_
            rw [hF]; simp [stepF, hl]; rfl
      · have hn := hk.2.1 (by omega)
        rw [show nxV (3, d, n) = .tuple [.int .i64 3, .str [], .int .i64 (n : Int)] from rfl] at dN
        refine gos ?_
        refine CallW.pure dN rfl rfl ?_
        cases pt with
        | true =>
          refine gos ?_
          refine RetW.plain (by simp) ?_
          rw [hF]; rfl
        | false =>
          refine gos ?_
          by_cases hl : la = 2
          · subst hl
            refine CmpW.t rfl ?_
            refine gos ?_
            by_cases hx : xi = []
            · subst hx
              refine CmpW.f rfl ?_
              refine gos ?_
              refine DrawW.L ?_
              refine gos ?_
              refine And.intro ⟨by omega, by omega⟩ ?_
              refine gos ?_
              rw [Int.toNat_natCast]
              have hdl : (s.drop n).length = s.length - n := List.length_drop
              exact ⟨(s.drop n).length + 1, _, 2, by omega, fgts, ⟨true, 3, [], xf⟩, s.drop n, g, rfl, by omega, by omega, by dsimp only [List.length_nil] at *; omega, by rw [hF]; simp [stepF], rfl, rfl⟩
            · refine CmpW.t (by simp [hx]) ?_
              refine gos ?_
              refine RetW.plain (by simp) ?_
              rw [hF]; simp [stepF, hx]; rfl
          · refine CmpW.f (by simp; omega) ?_
            refine gos ?_
            refine DrawW.L ?_
            refine gos ?_
            refine And.intro ⟨by omega, by omega⟩ ?_
            refine gos ?_
            rw [Int.toNat_natCast]
            have hdl : (s.drop n).length = s.length - n := List.length_drop
            exact ⟨(s.drop n).length + 1, _, 2, by omega, fgts, ⟨true, 3, xi, xf⟩, s.drop n, g, rfl, by omega, by omega, by dsimp only; omega, by rw [hF]; simp [stepF, hl], rfl, rfl⟩
  rintro e h ⟨x, hF, rfl, rfl⟩
  refine AC.step tab ?_
  refine gos ?_
  by_cases hl : x.last = 1
  · refine CmpW.f (by simp [hl]) ?_
    refine gos ?_
    refine AC.go tab ?_
    refine gos ?_
    refine RetW.plain (by simp) ?_
    simp [hF, readF, hl, rdV, visC]
  · refine CmpW.t (by simp; omega) ?_
    refine gos ?_
    refine RetW.plain (by simp) ?_
    simp [hF, readF, hl, rdV, visC]
end Go.Proofs.YtpbjjhpihhnomaaGreatDoor

namespace Go.Proofs.YtpbjjhpihhnomaaGreatDoor
open Go Go.Abs
set_option linter.unusedVariables false
theorem checkB_0 : checkF base0 = 0 := by kernel_rfl
theorem checkB_1 : checkF base1 = 0 := by kernel_rfl
theorem checkB_2 : checkF base2 = 0 := by kernel_rfl
def fewQ (n : Nat) : Bool := Nat.ble n 40000
def txtQ (l : List TTxt) : Bool := fewQ l.length && l.all fun x => fewQ x.text.length
def rowQ (l : List TRow) : Bool := fewQ l.length && l.all fun r => txtQ r.texts
def strQ (t : TTab) : Bool := (t.dg.list ++ [t.minus, t.plus, t.percent, t.permille, t.point, t.comma, t.decimal, t.per, t.money, t.account, t.rules, t.before.cur, t.before.num, t.before.ins, t.after.cur, t.after.num, t.after.ins]).all fun s => fewQ s.length
def fitsQ (t : TTab) : Bool := strQ t && (rowQ t.short && (rowQ t.long && (rowQ t.mshort && (txtQ t.munit && ((fewQ t.curs.length && t.curs.all fun c => fewQ c.code.length && (fewQ c.symbol.length && (fewQ c.narrow.length && txtQ c.names))) && (fewQ t.units.length && t.units.all fun u => fewQ u.name.length && txtQ u.texts))))))
theorem fewQ_lt {n : Nat} (h : fewQ n = true) : n < 50000 := by have := Nat.le_of_ble_eq_true h; omega
theorem txtQ_fits {l : List TTxt} (h : txtQ l = true) : txtFits l := by
  rw [txtQ, Bool.and_eq_true] at h
  exact ⟨fewQ_lt h.1, fun x hx => fewQ_lt (List.all_eq_true.1 h.2 x hx)⟩
theorem rowQ_fits {l : List TRow} (h : rowQ l = true) : l.length < 50000 ∧ ∀ r ∈ l, r.fits := by
  rw [rowQ, Bool.and_eq_true] at h
  refine ⟨fewQ_lt h.1, fun r hr => ?_⟩
  have := txtQ_fits (List.all_eq_true.1 h.2 r hr)
  exact ⟨by have := this.1; omega, fun x hx => by have := this.2 x hx; omega⟩
theorem fitsQ_fits {t : TTab} (h : fitsQ t = true) : t.fits := by
  simp only [fitsQ, Bool.and_eq_true] at h
  obtain ⟨hS, hs, hl, hm, hu, ⟨hc, hcs⟩, hn, hns⟩ := h
  have st := fun s hs => fewQ_lt (List.all_eq_true.1 hS s hs)
  refine ⟨fun x hx => st x (List.mem_append_left _ hx), st _ (by simp), st _ (by simp), st _ (by simp), st _ (by simp), st _ (by simp), st _ (by simp), st _ (by simp), st _ (by simp), st _ (by simp), st _ (by simp), st _ (by simp), rowQ_fits hs, rowQ_fits hl, rowQ_fits hm,
    ⟨fewQ_lt hc, fun c hm => ?_⟩, ⟨fewQ_lt hn, fun u hm => ?_⟩, txtQ_fits hu, ⟨st _ (by simp), st _ (by simp), st _ (by simp)⟩, ⟨st _ (by simp), st _ (by simp), st _ (by simp)⟩⟩
  · have := List.all_eq_true.1 hcs c hm
    simp only [Bool.and_eq_true] at this
    exact ⟨fewQ_lt this.1, fewQ_lt this.2.1, fewQ_lt this.2.2.1, txtQ_fits this.2.2.2⟩
  · have := List.all_eq_true.1 hns u hm
    simp only [Bool.and_eq_true] at this
    exact ⟨fewQ_lt this.1, txtQ_fits this.2⟩
theorem fitsB_0 : base0.fits := fitsQ_fits (by kernel_rfl)
theorem fitsB_1 : base1.fits := fitsQ_fits (by kernel_rfl)
theorem fitsB_2 : base2.fits := fitsQ_fits (by kernel_rfl)
theorem belB_0 : base0.below = true := by kernel_rfl
theorem belB_1 : base1.below = true := by kernel_rfl
theorem belB_2 : base2.below = true := by kernel_rfl
theorem encB_0 : Nat.ble (encF base0).length 65536 = true := by kernel_rfl
theorem encB_1 : Nat.ble (encF base1).length 65536 = true := by kernel_rfl
theorem encB_2 : Nat.ble (encF base2).length 65536 = true := by kernel_rfl
theorem baseF_three (n : Int) : baseF n = base0 ∨ baseF n = base1 ∨ baseF n = base2 := by
  unfold baseF
  split
  · exact .inr (.inl rfl)
  split
  · exact .inr (.inr rfl)
  · exact .inl rfl
theorem checkB (n : Int) : checkF (baseF n) = 0 := by
  rcases baseF_three n with h | h | h <;> rw [h]
  · exact checkB_0
  · exact checkB_1
  · exact checkB_2
theorem fitsB (n : Int) : (baseF n).fits := by
  rcases baseF_three n with h | h | h <;> rw [h]
  · exact fitsB_0
  · exact fitsB_1
  · exact fitsB_2
theorem belB (n : Int) : (baseF n).below = true := by
  rcases baseF_three n with h | h | h <;> rw [h]
  · exact belB_0
  · exact belB_1
  · exact belB_2
theorem encB_le (n : Int) : (encF (baseF n)).length ≤ 65536 := by
  rcases baseF_three n with h | h | h <;> rw [h]
  · exact Nat.le_of_ble_eq_true encB_0
  · exact Nat.le_of_ble_eq_true encB_1
  · exact Nat.le_of_ble_eq_true encB_2
end Go.Proofs.YtpbjjhpihhnomaaGreatDoor
