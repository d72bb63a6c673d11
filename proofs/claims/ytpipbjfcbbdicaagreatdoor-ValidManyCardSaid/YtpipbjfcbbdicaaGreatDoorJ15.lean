/- What a table that is handed reads as. -/
import Derived.Test.YtpipbjfcbbdicaaGreatDoorJ14
import Derived.Test.YtpipbjfcbbdicaaGreatDoorJ01
import Derived.Test.YtpipbjfcbbdicaaGreatDoorRows
import Derived.ProofKit
set_option linter.unusedVariables false
set_option linter.unusedSimpArgs false
set_option maxRecDepth 100000
set_option maxHeartbeats 4000000

namespace Go.Proofs.YtpipbjfcbbdicaaGreatDoor
open Go Go.Abs
attribute [local irreducible] DrawW CallW RetW AC Does CmpW

def lmonB (c : TCur) : Bool := codeF c.code && (maybeF c.symbol && (maybeF c.narrow && ((decide (c.names = []) || orderF c.names) && ((c.names.all fun x => nameF x.text) && (inF c.digits 0 20 && (inF c.cashDigits 0 20 && (inF c.inc 0 1000000000 && inF c.cashInc 0 1000000000)))))))
def monL : List UInt8 → List TCur → Bool
  | _, [] => true
  | last, c :: l => if !leB c.code last && lmonB c then monL c.code l else false
def lmoneyF (l : List TCur) : Bool := monL [] l && decide (l.length ≤ 40)
theorem lmoney_does (m : Int) (l : List TCur) (hl : l.length < 50000) (hf : ∀ c ∈ l, c.fits) : Does Tryz.prog (GL m) 45 [curL l] [] fun ae _ => ae = .ret (.bool (lmoneyF l)) := by
  have ll : (l.map encCu).length = l.length := by simp
  refine Does.bodyA tab Tryz.func45 rfl rfl ?_
  refine AC.step tab ?_
  refine gos ?_
  refine AC.step tab ?_
  refine gos ?_
  refine AC.cutA (fun e h => monL [] l = true ∧ e = [curL l] ++ List.replicate 128 .any ∧ h = []) ?_ ?_
  · refine AC.step tab ?_
    refine gos ?_
    rw [ll]
    refine AC.blk ?_
    refine AC.loopA (fun f e h => ∃ (i : Nat) (last : List UInt8), f + i = l.length + 1 ∧ i ≤ l.length ∧ monL [] l = monL last (l.drop i) ∧ e = [curL l, .any, .any, .str last, .any, .any, .any, .any, .any, .fsl (l.map encCu), .int .i64 l.length, .int .i64 i] ++ List.replicate 117 .any ∧ h = [])
      (l.length + 1) ⟨_, fgts, 0, [], by omega, by omega, rfl, rfl, rfl⟩ ?_
    rintro f e h ⟨i, last, hf2, hi, hF, rfl, rfl⟩
    refine AC.step tab ?_
    refine gos ?_
    by_cases hlt : i < l.length
    case neg =>
      refine CmpW.N ?_
      rw [List.drop_of_length_le (by omega)] at hF
      refine gos ?_
      refine AC.step tab ?_
      refine gos ?_
      exact ⟨_, 0, fgts, hF, rfl, rfl⟩
    obtain ⟨c, hx⟩ : ∃ x, l[i]? = some x := ⟨_, List.getElem?_eq_getElem hlt⟩
    rw [drop_cons' hx] at hF
    simp only [monL] at hF
    obtain ⟨fc, fs, fn, fm⟩ := hf c (List.mem_of_getElem? hx)
    have no : (!leB c.code last && lmonB c) = false → lmoneyF l = false := fun h => by rw [lmoneyF, hF, h]; rfl
    have cl : (c.names.map encT).length = c.names.length := by simp
    refine CmpW.T ?_
    refine gos ?_
    refine AC.step tab ?_
    refine gos ?_
    refine AC.seqA ?_
    refine AC.blk ?_
    refine AC.step tab ?_
    refine gos ?_
    refine And.intro (encCu_eight l) (And.intro (by omega) ⟨encCu c, map_get hx, ?_⟩)
    (repeat (first | refine gof ?_ | refine fun (vv : Nat) => ?_))
    refine AC.step tab ?_
    refine gos ?_
    by_cases h3 : c.code.length = 3
    case neg =>
      refine CmpW.t (by simp; omega) ?_
      refine gos ?_
      refine RetW.plain (by simp) ?_
      rw [no (by simp [lmonB, codeF, h3])]
    refine CmpW.f (by simp; omega) ?_
    refine gos ?_
    cases h4 : leB c.code last with
    | true =>
      refine CmpW.t h4 ?_
      refine gos ?_
      refine RetW.plain (by simp) ?_
      rw [no (by simp [h4])]
    | false =>
    refine CmpW.f h4 ?_
    refine gos ?_
    rw [h4] at no hF
    refine AC.step tab ?_
    refine gos ?_
    refine AC.cutA (fun e h => c.code.all upB = true ∧ e = [curL l, .any, .any, .str c.code, .any, .ptr 0 vv 0 0, .any, .any, .any, .fsl (l.map encCu), .int .i64 l.length, .int .i64 i] ++ List.replicate 117 .any ∧ h = [some ⟨vv, 46, 8, [encCu c]⟩]) ?_ ?_
    · refine AC.step tab ?_
      refine gos ?_
      refine AC.blk ?_
      refine AC.loopC tab (fun f e h => ∃ (k : Nat), f + k = 4 ∧ k ≤ 3 ∧ c.code.all upB = (c.code.drop k).all upB ∧ e = [curL l, .any, .any, .str c.code, .any, .ptr 0 vv 0 0, .int .i64 k, .any, .any, .fsl (l.map encCu), .int .i64 l.length, .int .i64 i] ++ List.replicate 117 .any ∧ h = [some ⟨vv, 46, 8, [encCu c]⟩])
        4 ⟨_, fgts, 0, by omega, by omega, rfl, rfl, rfl⟩ ?_
      rintro g e h ⟨k, hg, hk, hA, rfl, rfl⟩
      refine gos ?_
      by_cases hk3 : k < 3
      case neg =>
        refine CmpW.N ?_
        rw [List.drop_of_length_le (by omega)] at hA
        refine gos ?_
        exact ⟨_, 1, fgts, hA, rfl, rfl⟩
      obtain ⟨d, hd⟩ : ∃ d, c.code[k]? = some d := ⟨_, List.getElem?_eq_getElem (by omega)⟩
      rw [drop_cons' hd, List.all_cons] at hA
      refine CmpW.T ?_
      refine gos ?_
      refine And.intro (by omega) ⟨d, hd, ?_⟩
      refine gos ?_
      by_cases g1 : d.toNat < 65
      · refine CmpW.T ?_
        refine gos ?_
        refine RetW.plain (by simp) ?_
        rw [no (by simp [lmonB, codeF, hA, show upB d = false by simp [upB]; omega])]
      refine CmpW.N ?_
      refine gos ?_
      refine And.intro (by omega) ⟨d, hd, ?_⟩
      refine gos ?_
      by_cases g2 : 90 < d.toNat
      · refine CmpW.T ?_
        refine gos ?_
        refine RetW.plain (by simp) ?_
        rw [no (by simp [lmonB, codeF, hA, show upB d = false by simp [upB]; omega])]
      refine CmpW.N ?_
      refine gos ?_
      exact ⟨g - 1, _, 1, by omega, fgts, k + 1, by omega, by omega, by rw [hA, show upB d = true by simp [upB]; omega]; rfl, rfl, rfl⟩
    rintro e h ⟨hU, rfl, rfl⟩
    have hcode : codeF c.code = true := by simp [codeF, hU, h3]
    refine AC.cutF tab (fun e h => maybeF c.symbol = true ∧ maybeF c.narrow = true ∧ (decide (c.names = []) || orderF c.names) = true ∧ e = [curL l, .any, .any, .str c.code, .any, .ptr 0 vv 0 0, .any, .any, .any, .fsl (l.map encCu), .int .i64 l.length, .int .i64 i] ++ List.replicate 117 .any ∧ h = [some ⟨vv, 46, 8, [encCu c]⟩]) ?_ ?_
    · -- the symbol
      refine gos ?_
      by_cases s0 : c.symbol = []
      · refine CmpW.f (by simpa using s0) ?_
        have hs : maybeF c.symbol = true := by simp [maybeF, s0]
        refine gos ?_
        by_cases n0 : c.narrow = []
        · refine CmpW.f (by simpa using n0) ?_
          have hn : maybeF c.narrow = true := by simp [maybeF, n0]
          refine gos ?_
          rw [cl]
          by_cases o0 : c.names = []
          · have ho : (decide (c.names = []) || orderF c.names) = true := by simp [o0]
            refine CmpW.f (by simp [o0]) ?_
            refine gos ?_
            exact ⟨_, 1, fgts, hs, hn, ho, rfl, rfl⟩
          · have o0' : 0 < c.names.length := List.length_pos_iff.2 o0
            refine CmpW.T ?_
            refine gos ?_
            refine CallW.pure (order_does c.names (by have := fm.1; omega)) rfl rfl ?_
            cases o1 : orderF c.names with
            | false =>
              refine gos ?_
              refine RetW.plain (by simp) ?_
              rw [no (by simp only [lmonB, o1, show decide (c.names = []) = false by simp [o0]]; simp)]
            | true =>
            refine gos ?_
            exact ⟨_, 1, fgts, hs, hn, by simp [o1], rfl, rfl⟩
        · refine CmpW.t (by simpa using n0) ?_
          refine gos ?_
          refine CallW.pure (lname_does m c.narrow (by omega)) rfl rfl ?_
          cases n1 : nameF c.narrow with
          | false =>
            refine gos ?_
            refine RetW.plain (by simp) ?_
            rw [no (by simp only [lmonB, show maybeF c.narrow = false by simp [maybeF, n0, n1]]; simp)]
          | true =>
          have hn : maybeF c.narrow = true := by simp [maybeF, n1]
          refine gos ?_
          rw [cl]
          by_cases o0 : c.names = []
          · have ho : (decide (c.names = []) || orderF c.names) = true := by simp [o0]
            refine CmpW.f (by simp [o0]) ?_
            refine gos ?_
            exact ⟨_, 1, fgts, hs, hn, ho, rfl, rfl⟩
          · have o0' : 0 < c.names.length := List.length_pos_iff.2 o0
            refine CmpW.T ?_
            refine gos ?_
            refine CallW.pure (order_does c.names (by have := fm.1; omega)) rfl rfl ?_
            cases o1 : orderF c.names with
            | false =>
              refine gos ?_
              refine RetW.plain (by simp) ?_
              rw [no (by simp only [lmonB, o1, show decide (c.names = []) = false by simp [o0]]; simp)]
            | true =>
            refine gos ?_
            exact ⟨_, 1, fgts, hs, hn, by simp [o1], rfl, rfl⟩
      · refine CmpW.t (by simpa using s0) ?_
        refine gos ?_
        refine CallW.pure (lname_does m c.symbol (by omega)) rfl rfl ?_
        cases s1 : nameF c.symbol with
        | false =>
          refine gos ?_
          refine RetW.plain (by simp) ?_
          rw [no (by simp [lmonB, maybeF, s0, s1])]
        | true =>
        have hs : maybeF c.symbol = true := by simp [maybeF, s1]
        refine gos ?_
        by_cases n0 : c.narrow = []
        · refine CmpW.f (by simpa using n0) ?_
          have hn : maybeF c.narrow = true := by simp [maybeF, n0]
          refine gos ?_
          rw [cl]
          by_cases o0 : c.names = []
          · have ho : (decide (c.names = []) || orderF c.names) = true := by simp [o0]
            refine CmpW.f (by simp [o0]) ?_
            refine gos ?_
            exact ⟨_, 1, fgts, hs, hn, ho, rfl, rfl⟩
          · have o0' : 0 < c.names.length := List.length_pos_iff.2 o0
            refine CmpW.T ?_
            refine gos ?_
            refine CallW.pure (order_does c.names (by have := fm.1; omega)) rfl rfl ?_
            cases o1 : orderF c.names with
            | false =>
              refine gos ?_
              refine RetW.plain (by simp) ?_
              rw [no (by simp only [lmonB, o1, show decide (c.names = []) = false by simp [o0]]; simp)]
            | true =>
            refine gos ?_
            exact ⟨_, 1, fgts, hs, hn, by simp [o1], rfl, rfl⟩
        · refine CmpW.t (by simpa using n0) ?_
          refine gos ?_
          refine CallW.pure (lname_does m c.narrow (by omega)) rfl rfl ?_
          cases n1 : nameF c.narrow with
          | false =>
            refine gos ?_
            refine RetW.plain (by simp) ?_
            rw [no (by simp only [lmonB, show maybeF c.narrow = false by simp [maybeF, n0, n1]]; simp)]
          | true =>
          have hn : maybeF c.narrow = true := by simp [maybeF, n1]
          refine gos ?_
          rw [cl]
          by_cases o0 : c.names = []
          · have ho : (decide (c.names = []) || orderF c.names) = true := by simp [o0]
            refine CmpW.f (by simp [o0]) ?_
            refine gos ?_
            exact ⟨_, 1, fgts, hs, hn, ho, rfl, rfl⟩
          · have o0' : 0 < c.names.length := List.length_pos_iff.2 o0
            refine CmpW.T ?_
            refine gos ?_
            refine CallW.pure (order_does c.names (by have := fm.1; omega)) rfl rfl ?_
            cases o1 : orderF c.names with
            | false =>
              refine gos ?_
              refine RetW.plain (by simp) ?_
              rw [no (by simp only [lmonB, o1, show decide (c.names = []) = false by simp [o0]]; simp)]
            | true =>
            refine gos ?_
            exact ⟨_, 1, fgts, hs, hn, by simp [o1], rfl, rfl⟩
    rintro e h ⟨hs, hn, ho, rfl, rfl⟩
    refine AC.cutA (fun e h => (c.names.all fun x => nameF x.text) = true ∧ e = [curL l, .any, .any, .str c.code, .any, .ptr 0 vv 0 0, .any, .any, .any, .fsl (l.map encCu), .int .i64 l.length, .int .i64 i] ++ List.replicate 117 .any ∧ h = [some ⟨vv, 46, 8, [encCu c]⟩]) ?_ ?_
    · refine AC.step tab ?_
      refine gos ?_
      rw [cl]
      refine AC.blk ?_
      refine AC.loopC tab (fun f e h => ∃ (k : Nat), f + k = c.names.length + 1 ∧ k ≤ c.names.length ∧ (c.names.all fun x => nameF x.text) = ((c.names.drop k).all fun x => nameF x.text) ∧
          e = [curL l, .any, .any, .str c.code, .any, .ptr 0 vv 0 0, .any, .any, .any, .fsl (l.map encCu), .int .i64 l.length, .int .i64 i] ++ List.replicate 64 .any ++ [.fsl (c.names.map encT), .int .i64 c.names.length, .int .i64 k] ++ List.replicate 50 .any ∧ h = [some ⟨vv, 46, 8, [encCu c]⟩])
        (c.names.length + 1) ⟨_, fgts, 0, by omega, by omega, rfl, rfl, rfl⟩ ?_
      rintro g e h ⟨k, hg, hk, hA, rfl, rfl⟩
      have nl := fm.1
      refine gos ?_
      by_cases hk3 : k < c.names.length
      case neg =>
        refine CmpW.N ?_
        rw [List.drop_of_length_le (by omega)] at hA
        refine gos ?_
        exact ⟨_, 1, fgts, hA, rfl, rfl⟩
      obtain ⟨x, hx2⟩ : ∃ x, c.names[k]? = some x := ⟨_, List.getElem?_eq_getElem (by omega)⟩
      rw [drop_cons' hx2, List.all_cons] at hA
      have fx := fm.2 x (List.mem_of_getElem? hx2)
      refine CmpW.T ?_
      refine gos ?_
      refine And.intro (encT_two c.names) (And.intro (by omega) ⟨encT x, map_get hx2, ?_⟩)
      (repeat (first | refine gof ?_ | refine fun (vv : Nat) => ?_))
      refine CallW.pure (lname_does m x.text (by omega)) rfl rfl ?_
      cases n1 : nameF x.text with
      | false =>
        refine gos ?_
        refine RetW.plain (by simp) ?_
        rw [no (by simp only [lmonB, hA, n1]; simp)]
      | true =>
      refine gos ?_
      exact ⟨g - 1, _, 1, by omega, fgts, k + 1, by omega, by omega, by rw [hA, n1]; rfl, rfl, rfl⟩
    rintro e h ⟨hN, rfl, rfl⟩
    refine AC.go tab ?_
    refine gos ?_
    by_cases r1 : c.digits < 0
    · refine CmpW.T ?_
      refine gos ?_
      refine RetW.plain (by simp) ?_
      rw [no (by simp only [lmonB, show inF c.digits 0 20 = false by simp [inF]; omega]; simp)]
    refine CmpW.N ?_
    refine gos ?_
    by_cases r1' : 20 < c.digits
    · refine CmpW.T ?_
      refine gos ?_
      refine RetW.plain (by simp) ?_
      rw [no (by simp only [lmonB, show inF c.digits 0 20 = false by simp [inF]; omega]; simp)]
    refine CmpW.N ?_
    refine gos ?_
    by_cases r2 : c.cashDigits < 0
    · refine CmpW.T ?_
      refine gos ?_
      refine RetW.plain (by simp) ?_
      rw [no (by simp only [lmonB, show inF c.cashDigits 0 20 = false by simp [inF]; omega]; simp)]
    refine CmpW.N ?_
    refine gos ?_
    by_cases r2' : 20 < c.cashDigits
    · refine CmpW.T ?_
      refine gos ?_
      refine RetW.plain (by simp) ?_
      rw [no (by simp only [lmonB, show inF c.cashDigits 0 20 = false by simp [inF]; omega]; simp)]
    refine CmpW.N ?_
    refine gos ?_
    by_cases r3 : c.inc < 0
    · refine CmpW.T ?_
      refine gos ?_
      refine RetW.plain (by simp) ?_
      rw [no (by simp only [lmonB, show inF c.inc 0 1000000000 = false by simp [inF]; omega]; simp)]
    refine CmpW.N ?_
    refine gos ?_
    by_cases r3' : 1000000000 < c.inc
    · refine CmpW.T ?_
      refine gos ?_
      refine RetW.plain (by simp) ?_
      rw [no (by simp only [lmonB, show inF c.inc 0 1000000000 = false by simp [inF]; omega]; simp)]
    refine CmpW.N ?_
    refine gos ?_
    by_cases r4 : c.cashInc < 0
    · refine CmpW.T ?_
      refine gos ?_
      refine RetW.plain (by simp) ?_
      rw [no (by simp only [lmonB, show inF c.cashInc 0 1000000000 = false by simp [inF]; omega]; simp)]
    refine CmpW.N ?_
    refine gos ?_
    by_cases r4' : 1000000000 < c.cashInc
    · refine CmpW.T ?_
      refine gos ?_
      refine RetW.plain (by simp) ?_
      rw [no (by simp only [lmonB, show inF c.cashInc 0 1000000000 = false by simp [inF]; omega]; simp)]
    refine CmpW.N ?_
    refine gos ?_
    have hB : lmonB c = true := by
      simp only [lmonB, hcode, hs, hn, ho, hN, show inF c.digits 0 20 = true by simp [inF]; omega, show inF c.cashDigits 0 20 = true by simp [inF]; omega, show inF c.inc 0 1000000000 = true by simp [inF]; omega, show inF c.cashInc 0 1000000000 = true by simp [inF]; omega, Bool.and_self]
    refine AC.go tab ?_
    refine gos ?_
    exact ⟨f - 1, _, 0, by omega, fgts, i + 1, c.code, by omega, by omega, by rw [hF, hB]; rfl, rfl, rfl⟩
  rintro e h ⟨hF, rfl, rfl⟩
  refine AC.go tab ?_
  refine gos ?_
  rw [ll]
  refine CmpW.s ?_
  refine gos ?_
  refine RetW.plain (by simp) ?_
  simp only [lmoneyF, hF, Bool.true_and]
  congr 2
  rw [Bool.eq_iff_iff]; simp; omega
end Go.Proofs.YtpipbjfcbbdicaaGreatDoor

namespace Go.Proofs.YtpipbjfcbbdicaaGreatDoor
open Go Go.Abs
attribute [local irreducible] DrawW CallW RetW AC Does CmpW
variable {G : Globs}

def ptP (x : TTxt) : Bool := decide (0 ≤ x.cat) && decide (x.text.length ≤ 200)
/-- Few texts? -/
def ptxtB (l : List TTxt) : Bool := l.all ptP && decide (l.length ≤ 20)
/-- Within a process's reach. -/
def txtWide (l : List TTxt) : Prop := l.length ≤ 140737488355328 ∧ ∀ x ∈ l, x.text.length ≤ 140737488355328
theorem ptexts_does (l : List TTxt) (hw : txtWide l) : Does Tryz.prog G 16 [txtL l] [] fun ae _ => ae = .ret (.bool (ptxtB l)) := by
  obtain ⟨hl, hx2⟩ := hw
  have ll : (l.map encT).length = l.length := by simp
  refine Does.bodyA tab Tryz.func16 rfl rfl ?_
  refine AC.step tab ?_
  refine gos ?_
  refine AC.cutF tab (fun e h => l.all ptP = true ∧ e = [txtL l] ++ List.replicate 23 .any ∧ h = []) ?_ ?_
  · refine gos ?_
    rw [ll]
    refine AC.loopC tab (fun f e h => ∃ (i : Nat), f + i = l.length + 1 ∧ i ≤ l.length ∧ l.all ptP = (l.drop i).all ptP ∧ e = [txtL l, .any, .any, .any, .any, .fsl (l.map encT), .int .i64 l.length, .int .i64 i] ++ List.replicate 16 .any ∧ h = [])
      (l.length + 1) ⟨_, fgts, 0, by omega, by omega, rfl, rfl, rfl⟩ ?_
    rintro f e h ⟨i, hf, hi, hF, rfl, rfl⟩
    refine gos ?_
    by_cases hlt : i < l.length
    · obtain ⟨x, hx⟩ : ∃ x, l[i]? = some x := ⟨_, List.getElem?_eq_getElem hlt⟩
      rw [drop_cons' hx, List.all_cons] at hF
      have hb := hx2 x (List.mem_of_getElem? hx)
      refine CmpW.T ?_
      refine gos ?_
      refine And.intro (encT_two l) (And.intro (by omega) ⟨encT x, map_get hx, ?_⟩)
      (repeat (first | refine gof ?_ | refine fun (vv : Nat) => ?_))
      by_cases hc : x.cat < 0
      · refine CmpW.T ?_
        refine gos ?_
        refine RetW.plain (by simp) ?_
        simp [ptxtB, hF, ptP, show ¬ 0 ≤ x.cat by omega]
      refine CmpW.N ?_
      refine gos ?_
      by_cases hd : x.text.length ≤ 200
      · refine CmpW.N ?_
        refine gos ?_
        exact ⟨f - 1, _, 0, by omega, fgts, i + 1, by omega, by omega, by rw [hF]; simp [ptP, hd, show 0 ≤ x.cat by omega], rfl, rfl⟩
      · refine CmpW.T ?_
        refine gos ?_
        refine RetW.plain (by simp) ?_
        simp [ptxtB, hF, ptP, hd]
    · refine CmpW.N ?_
      rw [List.drop_of_length_le (by omega)] at hF
      refine gos ?_
      exact ⟨_, 0, fgts, hF, rfl, rfl⟩
  rintro e h ⟨hF, rfl, rfl⟩
  refine AC.go tab ?_
  refine gos ?_
  rw [ll]
  refine CmpW.s ?_
  refine gos ?_
  refine RetW.plain (by simp) ?_
  simp [ptxtB, hF]
  try omega
def prP (r : TRow) : Bool := decide (0 ≤ r.mag) && ptxtB r.texts
def prowB (l : List TRow) : Bool := l.all prP && decide (l.length ≤ 20)
def rowWide (l : List TRow) : Prop := l.length ≤ 140737488355328 ∧ ∀ r ∈ l, txtWide r.texts
theorem prows_does (l : List TRow) (hw : rowWide l) : Does Tryz.prog G 15 [rowL l] [] fun ae _ => ae = .ret (.bool (prowB l)) := by
  obtain ⟨hl, hx2⟩ := hw
  have ll : (l.map encR).length = l.length := by simp
  refine Does.bodyA tab Tryz.func15 rfl rfl ?_
  refine AC.step tab ?_
  refine gos ?_
  refine AC.cutF tab (fun e h => l.all prP = true ∧ e = [rowL l] ++ List.replicate 23 .any ∧ h = []) ?_ ?_
  · refine gos ?_
    rw [ll]
    refine AC.loopC tab (fun f e h => ∃ (i : Nat), f + i = l.length + 1 ∧ i ≤ l.length ∧ l.all prP = (l.drop i).all prP ∧ e = [rowL l, .any, .any, .any, .any, .fsl (l.map encR), .int .i64 l.length, .int .i64 i] ++ List.replicate 16 .any ∧ h = [])
      (l.length + 1) ⟨_, fgts, 0, by omega, by omega, rfl, rfl, rfl⟩ ?_
    rintro f e h ⟨i, hf, hi, hF, rfl, rfl⟩
    refine gos ?_
    by_cases hlt : i < l.length
    · obtain ⟨x, hx⟩ : ∃ x, l[i]? = some x := ⟨_, List.getElem?_eq_getElem hlt⟩
      rw [drop_cons' hx, List.all_cons] at hF
      have hb := hx2 x (List.mem_of_getElem? hx)
      refine CmpW.T ?_
      refine gos ?_
      refine And.intro (encR_two l) (And.intro (by omega) ⟨encR x, map_get hx, ?_⟩)
      (repeat (first | refine gof ?_ | refine fun (vv : Nat) => ?_))
      by_cases hc : x.mag < 0
      · refine CmpW.T ?_
        refine gos ?_
        refine RetW.plain (by simp) ?_
        simp [prowB, hF, prP, show ¬ 0 ≤ x.mag by omega]
      refine CmpW.N ?_
      refine gos ?_
      refine CallW.pure (ptexts_does x.texts hb) rfl rfl ?_
      cases hd : ptxtB x.texts with
      | true =>
        refine gos ?_
        exact ⟨f - 1, _, 0, by omega, fgts, i + 1, by omega, by omega, by rw [hF]; simp [prP, hd, show 0 ≤ x.mag by omega], rfl, rfl⟩
      | false =>
        refine gos ?_
        refine RetW.plain (by simp) ?_
        simp [prowB, hF, prP, hd]
    · refine CmpW.N ?_
      rw [List.drop_of_length_le (by omega)] at hF
      refine gos ?_
      exact ⟨_, 0, fgts, hF, rfl, rfl⟩
  rintro e h ⟨hF, rfl, rfl⟩
  refine AC.go tab ?_
  refine gos ?_
  rw [ll]
  refine CmpW.s ?_
  refine gos ?_
  refine RetW.plain (by simp) ?_
  simp [prowB, hF]
  try omega
end Go.Proofs.YtpipbjfcbbdicaaGreatDoor

namespace Go.Proofs.YtpipbjfcbbdicaaGreatDoor
open Go Go.Abs
attribute [local irreducible] DrawW CallW RetW AC Does CmpW
variable {G : Globs}

def few (s : List UInt8) : Bool := decide (s.length ≤ 200)
def TTab.strs (t : TTab) : List (List UInt8) := [t.minus, t.plus, t.percent, t.permille, t.point, t.comma, t.decimal, t.per, t.money, t.account, t.before.cur, t.before.num, t.before.ins, t.after.cur, t.after.num, t.after.ins]
def pcP (c : TCur) : Bool := decide (c.code.length + c.symbol.length + c.narrow.length ≤ 200) && (ptxtB c.names && (decide (0 ≤ c.digits) && (decide (0 ≤ c.inc) && (decide (0 ≤ c.cashDigits) && decide (0 ≤ c.cashInc)))))
def puP (u : TUnt) : Bool := few u.name && ptxtB u.texts
def pmB (t : TTab) : Bool := decide (0 ≤ t.minGroup) && (decide (t.rules.length ≤ 5000) && (prowB t.short && (prowB t.long && (prowB t.mshort && (ptxtB t.munit && (decide (t.curs.length ≤ 50) && decide (t.units.length ≤ 50)))))))
/-- Has a table few things, of few bytes, and no numbers below 0? -/
def plainB (t : TTab) : Bool := t.dg.list.all few && (t.strs.all few && (pmB t && (t.curs.all pcP && t.units.all puP)))
structure TTab.wide (t : TTab) : Prop where
  dg : ∀ x ∈ t.dg.list, x.length ≤ 140737488355328
  strs : ∀ x ∈ t.strs, x.length ≤ 140737488355328
  rules : t.rules.length ≤ 140737488355328
  short : rowWide t.short
  long : rowWide t.long
  mshort : rowWide t.mshort
  curs : t.curs.length ≤ 140737488355328 ∧ ∀ c ∈ t.curs, c.code.length ≤ 140737488355328 ∧ c.symbol.length ≤ 140737488355328 ∧ c.narrow.length ≤ 140737488355328 ∧ txtWide c.names
  units : t.units.length ≤ 140737488355328 ∧ ∀ u ∈ t.units, u.name.length ≤ 140737488355328 ∧ txtWide u.texts
  munit : txtWide t.munit
theorem strs_len (t : TTab) : t.strs.length = 16 := rfl
def encS1 (s : List UInt8) : List AV := [.str s]
theorem encS1_one (l : List (List UInt8)) : ∀ y ∈ l.map encS1, y.length = 1 := fun y hy => by obtain ⟨z, _, rfl⟩ := List.mem_map.1 hy; rfl
theorem plain_does (t : TTab) (hw : t.wide) : Does Tryz.prog G 7 [.agg (tabC t)] [] fun ae _ => ae = .ret (.bool (plainB t)) := by
  obtain ⟨hD, hS, hR, hSh, hLo, hMs, hCu, hUn, hMu⟩ := hw
  have lc : (t.curs.map encCu).length = t.curs.length := by simp
  have lu : (t.units.map encU).length = t.units.length := by simp
  have e0 : ∀ b, plainB t = b ↔ (t.dg.list.all few && (t.strs.all few && (pmB t && (t.curs.all pcP && t.units.all puP)))) = b := fun b => Iff.rfl
  refine Does.bodyA tab Tryz.func7 rfl rfl ?_
  refine AC.step tab ?_
  refine gos ?_
  intro v1
  refine gos ?_
  refine AC.cutF tab (fun e h => t.dg.list.all few = true ∧ e = [.any, .ptr 0 v1 0 0] ++ List.replicate 175 .any ∧ h = [some ⟨v1, 31, 34, [tabC t]⟩]) ?_ ?_
  · refine gos ?_
    refine AC.loopC tab (fun f e h => ∃ (i : Nat), f + i = 11 ∧ i ≤ 10 ∧ t.dg.list.all few = (t.dg.list.drop i).all few ∧
        e = [.any, .ptr 0 v1 0 0, .any, .any, .any, .any, .any, .any, .any, .any, .any, .any, .agg t.dg.cells, .int .i64 i] ++ List.replicate 163 .any ∧ h = [some ⟨v1, 31, 34, [tabC t]⟩])
      11 ⟨_, fgts, 0, by omega, by omega, rfl, rfl, rfl⟩ ?_
    rintro f e h ⟨i, hf, hi, hF, rfl, rfl⟩
    refine gos ?_
    by_cases hlt : i < 10
    case neg =>
      refine CmpW.N ?_
      rw [List.drop_of_length_le (by simp [TDig.list]; omega)] at hF
      refine gos ?_
      exact ⟨_, 1, fgts, hF, rfl, rfl⟩
    obtain ⟨d, hd⟩ : ∃ d, t.dg.list[i]? = some d := ⟨_, List.getElem?_eq_getElem (by simp [TDig.list]; omega)⟩
    rw [drop_cons' hd, List.all_cons] at hF
    have hb := hD d (List.mem_of_getElem? hd)
    have no : few d = false → plainB t = false := fun h => by rw [plainB, hF, h]; rfl
    refine CmpW.T ?_
    refine gos ?_
    refine And.intro (And.intro (by omega) (by omega)) (idx_str (ds := t.dg.list) hd ?_)
    refine gos ?_
    by_cases h2 : d.length ≤ 200
    · refine CmpW.N ?_
      refine gos ?_
      exact ⟨f - 1, _, 1, by omega, fgts, i + 1, by omega, by omega, by rw [hF]; simp [few, h2], rfl, rfl⟩
    · refine CmpW.T ?_
      refine gos ?_
      refine RetW.plain (by simp) ?_
      rw [no (by simp [few, h2])]
  rintro e h ⟨hA, rfl, rfl⟩
  refine AC.cutA (fun e h => t.strs.all few = true ∧ e = [.any, .ptr 0 v1 0 0] ++ List.replicate 175 .any ∧ h = [some ⟨v1, 31, 34, [tabC t]⟩]) ?_ ?_
  · refine AC.cutF tab (fun e h => ∃ (vr L : Nat) (E : List (List AV)), L = 16 ∧ E = t.strs.map encS1 ∧ e = [.any, .ptr 0 v1 0 0] ++ List.replicate 56 .any ++ [.sl 1 vr, .int .i64 L, .int .i64 0] ++ List.replicate 116 .any ∧ h = [some ⟨v1, 31, 34, [tabC t]⟩, some ⟨vr, 9, 1, E⟩]) ?_ ?_
    · (repeat (first | refine gof ?_ | refine fun (vv : Nat) => ?_))
      exact ⟨_, 2, fgts, vv, 16, t.strs.map encS1, rfl, rfl, rfl, rfl⟩
    rintro e h ⟨vr, L, E, rfl, rfl, rfl, rfl⟩
    refine AC.wk (Wk.row (k := 58) (i := 1) (o := ⟨vr, 9, 1, t.strs.map encS1⟩) rfl rfl rfl rfl) ?_
    refine AC.go tab ?_
    refine gos ?_
    refine AC.loopC tab (fun f e h => ∃ (i : Nat), f + i = 17 ∧ i ≤ 16 ∧ t.strs.all few = (t.strs.drop i).all few ∧
        e = [.any, .ptr 0 v1 0 0] ++ List.replicate 56 .any ++ [.fsl (t.strs.map encS1), .int .i64 16, .int .i64 i] ++ List.replicate 116 .any ∧ h = [some ⟨v1, 31, 34, [tabC t]⟩, none])
      17 ⟨_, fgts, 0, by omega, by omega, rfl, rfl, rfl⟩ ?_
    rintro f e h ⟨i, hf, hi, hF, rfl, rfl⟩
    refine gos ?_
    by_cases hlt : i < 16
    case neg =>
      refine CmpW.N ?_
      rw [List.drop_of_length_le (by rw [strs_len]; omega)] at hF
      refine gos ?_
      exact ⟨_, 1, fgts, hF, rfl, rfl⟩
    obtain ⟨d, hd⟩ : ∃ d, t.strs[i]? = some d := ⟨_, List.getElem?_eq_getElem (by rw [strs_len]; omega)⟩
    rw [drop_cons' hd, List.all_cons] at hF
    have hb := hS d (List.mem_of_getElem? hd)
    have no : few d = false → plainB t = false := fun h => by rw [plainB, hA, hF, h]; rfl
    refine CmpW.T ?_
    refine gos ?_
    have ls : (t.strs.map encS1).length = 16 := by rw [List.length_map, strs_len]
    refine And.intro (encS1_one t.strs) (And.intro (by omega) ⟨encS1 d, map_get hd, ?_⟩)
    refine gos ?_
    by_cases h2 : d.length ≤ 200
    · refine CmpW.N ?_
      refine gos ?_
      exact ⟨f - 1, _, 2, by omega, fgts, i + 1, by omega, by omega, by rw [hF]; simp [few, h2], rfl, rfl⟩
    · refine CmpW.T ?_
      refine gos ?_
      refine RetW.plain (by simp) ?_
      rw [no (by simp [few, h2])]
  rintro e h ⟨hB, rfl, rfl⟩
  refine AC.cutF tab (fun e h => pmB t = true ∧ e = [.any, .ptr 0 v1 0 0] ++ List.replicate 175 .any ∧ h = [some ⟨v1, 31, 34, [tabC t]⟩]) ?_ ?_
  · have no : pmB t = false → plainB t = false := fun h => by rw [plainB, hA, hB, h]; rfl
    have cs := hCu.1
    have us := hUn.1
    refine gos ?_
    by_cases m1 : t.minGroup < 0
    · refine CmpW.T ?_
      refine gos ?_
      refine RetW.plain (by simp) ?_
      rw [no (by simp [pmB]; omega)]
    refine CmpW.N ?_
    refine gos ?_
    have m1' : 0 ≤ t.minGroup := by omega
    by_cases m2 : t.rules.length ≤ 5000
    case neg =>
      refine CmpW.T ?_
      refine gos ?_
      refine RetW.plain (by simp) ?_
      rw [no (by simp [pmB, m2])]
    refine CmpW.N ?_
    refine gos ?_
    refine CallW.pure (prows_does t.short hSh) rfl rfl ?_
    cases m3 : prowB t.short with
    | false =>
      refine gos ?_
      refine RetW.plain (by simp) ?_
      rw [no (by simp [pmB, m3])]
    | true =>
    refine gos ?_
    refine CallW.pure (prows_does t.long hLo) rfl rfl ?_
    cases m4 : prowB t.long with
    | false =>
      refine gos ?_
      refine RetW.plain (by simp) ?_
      rw [no (by simp [pmB, m4])]
    | true =>
    refine gos ?_
    refine CallW.pure (prows_does t.mshort hMs) rfl rfl ?_
    cases m5 : prowB t.mshort with
    | false =>
      refine gos ?_
      refine RetW.plain (by simp) ?_
      rw [no (by simp [pmB, m5])]
    | true =>
    refine gos ?_
    refine CallW.pure (ptexts_does t.munit hMu) rfl rfl ?_
    cases m6 : ptxtB t.munit with
    | false =>
      refine gos ?_
      refine RetW.plain (by simp) ?_
      rw [no (by simp [pmB, m6])]
    | true =>
    refine gos ?_
    rw [lc]
    by_cases m7 : t.curs.length ≤ 50
    case neg =>
      refine CmpW.T ?_
      refine gos ?_
      refine RetW.plain (by simp) ?_
      rw [no (by simp [pmB, m7])]
    refine CmpW.N ?_
    refine gos ?_
    rw [lu]
    by_cases m8 : t.units.length ≤ 50
    case neg =>
      refine CmpW.T ?_
      refine gos ?_
      refine RetW.plain (by simp) ?_
      rw [no (by simp [pmB, m8])]
    refine CmpW.N ?_
    refine gos ?_
    exact ⟨_, 1, fgts, by simp [pmB, m1', m2, m3, m4, m5, m6, m7, m8], rfl, rfl⟩
  rintro e h ⟨hC, rfl, rfl⟩
  refine AC.cutF tab (fun e h => t.curs.all pcP = true ∧ e = [.any, .ptr 0 v1 0 0] ++ List.replicate 175 .any ∧ h = [some ⟨v1, 31, 34, [tabC t]⟩]) ?_ ?_
  · have cs := hCu.1
    refine gos ?_
    rw [lc]
    refine AC.loopC tab (fun f e h => ∃ (i : Nat), f + i = t.curs.length + 1 ∧ i ≤ t.curs.length ∧ t.curs.all pcP = (t.curs.drop i).all pcP ∧
        e = [.any, .ptr 0 v1 0 0] ++ List.replicate 112 .any ++ [.fsl (t.curs.map encCu), .int .i64 t.curs.length, .int .i64 i] ++ List.replicate 60 .any ∧ h = [some ⟨v1, 31, 34, [tabC t]⟩])
      (t.curs.length + 1) ⟨_, fgts, 0, by omega, by omega, rfl, rfl, rfl⟩ ?_
    rintro f e h ⟨i, hf, hi, hF, rfl, rfl⟩
    refine gos ?_
    by_cases hlt : i < t.curs.length
    case neg =>
      refine CmpW.N ?_
      rw [List.drop_of_length_le (by omega)] at hF
      refine gos ?_
      exact ⟨_, 1, fgts, hF, rfl, rfl⟩
    obtain ⟨c, hc⟩ : ∃ d, t.curs[i]? = some d := ⟨_, List.getElem?_eq_getElem hlt⟩
    rw [drop_cons' hc, List.all_cons] at hF
    obtain ⟨b1, b2, b3, b4⟩ := hCu.2 c (List.mem_of_getElem? hc)
    have no : pcP c = false → plainB t = false := fun h => by rw [plainB, hA, hB, hC, hF, h]; rfl
    refine CmpW.T ?_
    refine gos ?_
    refine And.intro (encCu_eight t.curs) (And.intro (by omega) ⟨encCu c, map_get hc, ?_⟩)
    (repeat (first | refine gof ?_ | refine fun (vv : Nat) => ?_))
    all_goals try omega
    by_cases c1 : c.code.length + c.symbol.length + c.narrow.length ≤ 200
    case neg =>
      refine CmpW.T ?_
      refine gos ?_
      refine RetW.plain (by simp) ?_
      rw [no (by simp [pcP, c1])]
    refine CmpW.N ?_
    refine gos ?_
    refine CallW.pure (ptexts_does c.names b4) rfl rfl ?_
    cases c2 : ptxtB c.names with
    | false =>
      refine gos ?_
      refine RetW.plain (by simp) ?_
      rw [no (by simp [pcP, c2])]
    | true =>
    refine gos ?_
    by_cases c3 : c.digits < 0
    · refine CmpW.T ?_
      refine gos ?_
      refine RetW.plain (by simp) ?_
      rw [no (by simp only [pcP, show decide (0 ≤ c.digits) = false by simp; omega]; simp)]
    refine CmpW.N ?_
    refine gos ?_
    by_cases c4 : c.inc < 0
    · refine CmpW.T ?_
      refine gos ?_
      refine RetW.plain (by simp) ?_
      rw [no (by simp only [pcP, show decide (0 ≤ c.inc) = false by simp; omega]; simp)]
    refine CmpW.N ?_
    refine gos ?_
    by_cases c5 : c.cashDigits < 0
    · refine CmpW.T ?_
      refine gos ?_
      refine RetW.plain (by simp) ?_
      rw [no (by simp only [pcP, show decide (0 ≤ c.cashDigits) = false by simp; omega]; simp)]
    refine CmpW.N ?_
    refine gos ?_
    by_cases c6 : c.cashInc < 0
    · refine CmpW.T ?_
      refine gos ?_
      refine RetW.plain (by simp) ?_
      rw [no (by simp only [pcP, show decide (0 ≤ c.cashInc) = false by simp; omega]; simp)]
    refine CmpW.N ?_
    refine gos ?_
    have c3' : 0 ≤ c.digits := by omega
    have c4' : 0 ≤ c.inc := by omega
    have c5' : 0 ≤ c.cashDigits := by omega
    have c6' : 0 ≤ c.cashInc := by omega
    exact ⟨f - 1, _, 1, by omega, fgts, i + 1, by omega, by omega, by rw [hF]; simp [pcP, c1, c2, c3', c4', c5', c6'], rfl, rfl⟩
  rintro e h ⟨hDc, rfl, rfl⟩
  refine AC.cutF tab (fun e h => t.units.all puP = true ∧ e = [.any, .ptr 0 v1 0 0] ++ List.replicate 175 .any ∧ h = [some ⟨v1, 31, 34, [tabC t]⟩]) ?_ ?_
  · have us := hUn.1
    refine gos ?_
    rw [lu]
    refine AC.loopC tab (fun f e h => ∃ (i : Nat), f + i = t.units.length + 1 ∧ i ≤ t.units.length ∧ t.units.all puP = (t.units.drop i).all puP ∧
        e = [.any, .ptr 0 v1 0 0] ++ List.replicate 158 .any ++ [.fsl (t.units.map encU), .int .i64 t.units.length, .int .i64 i] ++ List.replicate 14 .any ∧ h = [some ⟨v1, 31, 34, [tabC t]⟩])
      (t.units.length + 1) ⟨_, fgts, 0, by omega, by omega, rfl, rfl, rfl⟩ ?_
    rintro f e h ⟨i, hf, hi, hF, rfl, rfl⟩
    refine gos ?_
    by_cases hlt : i < t.units.length
    case neg =>
      refine CmpW.N ?_
      rw [List.drop_of_length_le (by omega)] at hF
      refine gos ?_
      exact ⟨_, 1, fgts, hF, rfl, rfl⟩
    obtain ⟨u, hu⟩ : ∃ d, t.units[i]? = some d := ⟨_, List.getElem?_eq_getElem hlt⟩
    rw [drop_cons' hu, List.all_cons] at hF
    obtain ⟨b1, b2⟩ := hUn.2 u (List.mem_of_getElem? hu)
    have no : puP u = false → plainB t = false := fun h => by rw [plainB, hA, hB, hC, hDc, hF, h]; rfl
    refine CmpW.T ?_
    refine gos ?_
    refine And.intro (encU_two t.units) (And.intro (by omega) ⟨encU u, map_get hu, ?_⟩)
    (repeat (first | refine gof ?_ | refine fun (vv : Nat) => ?_))
    by_cases u1 : u.name.length ≤ 200
    case neg =>
      refine CmpW.T ?_
      refine gos ?_
      refine RetW.plain (by simp) ?_
      rw [no (by simp [puP, few, u1])]
    refine CmpW.N ?_
    refine gos ?_
    refine CallW.pure (ptexts_does u.texts b2) rfl rfl ?_
    cases u2 : ptxtB u.texts with
    | false =>
      refine gos ?_
      refine RetW.plain (by simp) ?_
      rw [no (by simp [puP, u2])]
    | true =>
    refine gos ?_
    exact ⟨f - 1, _, 1, by omega, fgts, i + 1, by omega, by omega, by rw [hF]; simp [puP, few, u1, u2], rfl, rfl⟩
  rintro e h ⟨hE, rfl, rfl⟩
  refine AC.go tab ?_
  refine gos ?_
  refine RetW.plain (by simp) ?_
  simp [plainB, hA, hB, hC, hDc, hE]
end Go.Proofs.YtpipbjfcbbdicaaGreatDoor

namespace Go.Proofs.YtpipbjfcbbdicaaGreatDoor
open Go Go.Abs Go.Opn
theorem oStr : Opnd Tryz.prog 9 1 (fun s : List UInt8 => [.str s]) (fun s => s.length ≤ reachBytes) := Opnd.str Tryz.underlying9 (by kernel_rfl)
theorem oInt : Opnd Tryz.prog 3 1 (fun z : Int => [.int .i64 z]) (fun _ => True) := (Opnd.int Tryz.underlying3 (by kernel_rfl)).map id (fun _ => rfl) (fun _ _ => trivial)
theorem oCat : Opnd Tryz.prog 85 1 (fun z : Int => [.int .i64 z]) (fun _ => True) := (Opnd.int Tryz.underlying85 (by kernel_rfl)).map id (fun _ => rfl) (fun _ _ => trivial)
theorem oTxt : Opnd Tryz.prog 87 2 encT (fun x => x.text.length ≤ 140737488355328) := by
  have h := Opnd.struct (n := 1 + (1 + 0)) Tryz.underlying87 (by kernel_rfl) (OpndFs.cons oCat rfl (OpndFs.cons oStr rfl (OpndFs.nil _)))
  exact h.map (fun x => (⟨x.1, x.2.1⟩ : TTxt)) (fun _ => rfl) (fun x h => by have := h.2.1; unfold reachBytes at this; exact Nat.le_trans this (by decide))
theorem reach_le {n : Nat} (h : n ≤ reachBytes) : n ≤ 140737488355328 := by unfold reachBytes at h; exact Nat.le_trans h (by decide)
theorem oTxts : Opnd Tryz.prog 27 1 (fun l => [txtL l]) txtWide :=
  (Opnd.slice Tryz.underlying27 (by kernel_rfl) (by omega) (of_decide_eq_true (by kernel_rfl)) oTxt).map id (fun _ => rfl) (fun x h => ⟨reach_le h.1, h.2⟩)
theorem oRow : Opnd Tryz.prog 43 2 encR (fun r => txtWide r.texts) := by
  have h := Opnd.struct (n := 1 + (1 + 0)) Tryz.underlying43 (by kernel_rfl) (OpndFs.cons oInt rfl (OpndFs.cons oTxts rfl (OpndFs.nil _)))
  exact h.map (fun x => (⟨x.1, x.2.1⟩ : TRow)) (fun _ => rfl) (fun x h => h.2.1)
theorem oRows : Opnd Tryz.prog 24 1 (fun l => [rowL l]) rowWide :=
  (Opnd.slice Tryz.underlying24 (by kernel_rfl) (by omega) (of_decide_eq_true (by kernel_rfl)) oRow).map id (fun _ => rfl) (fun x h => ⟨reach_le h.1, h.2⟩)
theorem oCur : Opnd Tryz.prog 46 8 encCu (fun c => c.code.length ≤ 140737488355328 ∧ c.symbol.length ≤ 140737488355328 ∧ c.narrow.length ≤ 140737488355328 ∧ txtWide c.names) := by
  have h := Opnd.struct (n := 1 + (1 + (1 + (1 + (1 + (1 + (1 + (1 + 0)))))))) Tryz.underlying46 (by kernel_rfl) (OpndFs.cons oStr rfl (OpndFs.cons oStr rfl (OpndFs.cons oStr rfl (OpndFs.cons oTxts rfl (OpndFs.cons oInt rfl (OpndFs.cons oInt rfl (OpndFs.cons oInt rfl (OpndFs.cons oInt rfl (OpndFs.nil _)))))))))
  exact h.map (fun x => (⟨x.1, x.2.1, x.2.2.1, x.2.2.2.1, x.2.2.2.2.1, x.2.2.2.2.2.1, x.2.2.2.2.2.2.1, x.2.2.2.2.2.2.2.1⟩ : TCur)) (fun _ => rfl) (fun x h => ⟨reach_le h.1, reach_le h.2.1, reach_le h.2.2.1, h.2.2.2.1⟩)
theorem oCurs : Opnd Tryz.prog 25 1 (fun l => [curL l]) (fun l => l.length ≤ 140737488355328 ∧ ∀ c ∈ l, c.code.length ≤ 140737488355328 ∧ c.symbol.length ≤ 140737488355328 ∧ c.narrow.length ≤ 140737488355328 ∧ txtWide c.names) :=
  (Opnd.slice Tryz.underlying25 (by kernel_rfl) (by omega) (of_decide_eq_true (by kernel_rfl)) oCur).map id (fun _ => rfl) (fun x h => ⟨reach_le h.1, h.2⟩)
theorem oUnt : Opnd Tryz.prog 48 2 encU (fun u => u.name.length ≤ 140737488355328 ∧ txtWide u.texts) := by
  have h := Opnd.struct (n := 1 + (1 + 0)) Tryz.underlying48 (by kernel_rfl) (OpndFs.cons oStr rfl (OpndFs.cons oTxts rfl (OpndFs.nil _)))
  exact h.map (fun x => (⟨x.1, x.2.1⟩ : TUnt)) (fun _ => rfl) (fun x h => ⟨reach_le h.1, h.2.1⟩)
theorem oUnts : Opnd Tryz.prog 26 1 (fun l => [untL l]) (fun l => l.length ≤ 140737488355328 ∧ ∀ u ∈ l, u.name.length ≤ 140737488355328 ∧ txtWide u.texts) :=
  (Opnd.slice Tryz.underlying26 (by kernel_rfl) (by omega) (of_decide_eq_true (by kernel_rfl)) oUnt).map id (fun _ => rfl) (fun x h => ⟨reach_le h.1, h.2⟩)
theorem oSpc : Opnd Tryz.prog 29 3 TSpc.cells (fun x => x.cur.length ≤ 140737488355328 ∧ x.num.length ≤ 140737488355328 ∧ x.ins.length ≤ 140737488355328) := by
  have h := Opnd.struct (n := 1 + (1 + (1 + 0))) Tryz.underlying29 (by kernel_rfl) (OpndFs.cons oStr rfl (OpndFs.cons oStr rfl (OpndFs.cons oStr rfl (OpndFs.nil _))))
  exact h.map (fun x => (⟨x.1, x.2.1, x.2.2.1⟩ : TSpc)) (fun _ => rfl) (fun x h => ⟨reach_le h.1, reach_le h.2.1, reach_le h.2.2.1⟩)
def digOf (l : List (List UInt8)) : TDig := ⟨l[0]?.getD [], l[1]?.getD [], l[2]?.getD [], l[3]?.getD [], l[4]?.getD [], l[5]?.getD [], l[6]?.getD [], l[7]?.getD [], l[8]?.getD [], l[9]?.getD []⟩
theorem digOf_eq {l : List (List UInt8)} (h : l.length = 10) : (digOf l).list = l := by
  match l, h with
  | [_, _, _, _, _, _, _, _, _, _], _ => rfl
theorem dig_cells (d : TDig) : d.cells = d.list.flatMap fun s => [.str s] := rfl
theorem oDig : Opnd Tryz.prog 23 10 TDig.cells (fun d => ∀ x ∈ d.list, x.length ≤ 140737488355328) := by
  have h := Opnd.array (m := 10) Tryz.underlying23 (by kernel_rfl) oStr
  refine ⟨h.1, fun H enc W fuel cs x h1 hz => ?_⟩
  obtain ⟨a, ⟨k1, k2⟩, k3, k4⟩ := h.2 H enc W fuel cs x h1 hz
  have e := digOf_eq k1
  refine ⟨digOf a, fun x hx => reach_le (k2 x (by rw [← e]; exact hx)), ?_, ?_⟩
  · rw [dig_cells, e]; exact k3
  · rw [dig_cells, e]; exact k4
theorem oTab : Opnd Tryz.prog 31 34 tabC TTab.wide := by
  have h := Opnd.struct (n := 10 + (1 + (1 + (1 + (1 + (1 + (1 + (1 + (1 + (1 + (1 + (1 + (1 + (1 + (1 + (1 + (1 + (1 + (1 + (3 + (3 + 0))))))))))))))))))))) Tryz.underlying31 (by kernel_rfl) (OpndFs.cons oDig rfl (OpndFs.cons oStr rfl (OpndFs.cons oStr rfl (OpndFs.cons oStr rfl (OpndFs.cons oStr rfl (OpndFs.cons oStr rfl (OpndFs.cons oStr rfl
    (OpndFs.cons oInt rfl (OpndFs.cons oStr rfl (OpndFs.cons oStr rfl (OpndFs.cons oStr rfl (OpndFs.cons oStr rfl (OpndFs.cons oStr rfl (OpndFs.cons oRows rfl (OpndFs.cons oRows rfl (OpndFs.cons oRows rfl
    (OpndFs.cons oCurs rfl (OpndFs.cons oUnts rfl (OpndFs.cons oTxts rfl (OpndFs.cons oSpc rfl (OpndFs.cons oSpc rfl (OpndFs.nil _))))))))))))))))))))))
  refine ⟨h.1, fun H enc W fuel cs x h1 hz => ?_⟩
  obtain ⟨⟨a0, a1, a2, a3, a4, a5, a6, a7, a8, a9, a10, a11, a12, a13, a14, a15, a16, a17, a18, a19, a20, _⟩, ⟨k0, k1, k2, k3, k4, k5, k6, k7, k8, k9, k10, k11, k12, k13, k14, k15, k16, k17, k18, k19, k20, _⟩, _, k⟩ := h.2 H enc W fuel cs x h1 hz
  refine ⟨⟨a0, a1, a2, a3, a4, a5, a6, a7, a8, a9, a10, a11, a12, a13, a14, a15, a16, a17, a18, a19, a20⟩, ⟨k0, ?_, reach_le k12, k13, k14, k15, k16, k17, k18⟩, rfl, k⟩
  intro s hs
  simp only [TTab.strs, List.mem_cons, List.not_mem_nil, or_false] at hs
  rcases hs with rfl | rfl | rfl | rfl | rfl | rfl | rfl | rfl | rfl | rfl | rfl | rfl | rfl | rfl | rfl | rfl
  · exact reach_le k1
  · exact reach_le k2
  · exact reach_le k3
  · exact reach_le k4
  · exact reach_le k5
  · exact reach_le k6
  · exact reach_le k8
  · exact reach_le k9
  · exact reach_le k10
  · exact reach_le k11
  · exact k19.1
  · exact k19.2.1
  · exact k19.2.2
  · exact k20.1
  · exact k20.2.1
  · exact k20.2.2
end Go.Proofs.YtpipbjfcbbdicaaGreatDoor
