/- Proved: for all arguments, florinlaw18.GroupSpans returns true, and its arguments read behind the call as they read before. Conditions: none but the row's own (package variables read as the program's text sets them, which the card ties). -/
import Derived.Test.YtpbjjhpihhnomaaGreatDoorJ46
import Derived.Test.YtpbjjhpihhnomaaGreatDoorJ16
import Derived.Test.YtpbjjhpihhnomaaGreatDoorJ18
import Derived.Test.YtpbjjhpihhnomaaGreatDoorJ41
import Derived.Test.YtpbjjhpihhnomaaGreatDoorJ35
import Derived.Test.YtpbjjhpihhnomaaGreatDoorRows
import Derived.Test.YtpbjjhpihhnomaaGreatDoorJ52
import Derived.Test.YtpbjjhpihhnomaaGreatDoorJ14
import Derived.Test.YtpbjjhpihhnomaaGreatDoorJ07
import Derived.Test.YtpbjjhpihhnomaaGreatDoorAbsC
import Derived.Lib.LaidU8
import Derived.Lib.LaidIn
import Derived.Shelf.Vars
import Derived.ProofKit
import Derived.ChangeOld
import Derived.Carry
import Derived.Lay
import Derived.Test.YtpbjjhpihhnomaaGreatDoorTie
import Derived.Test.YtpbjjhpihhnomaaGreatDoorCards
import Derived.SevenTiedAt
set_option linter.unusedVariables false
set_option linter.unusedSimpArgs false
set_option maxRecDepth 100000
set_option maxHeartbeats 4000000

namespace Go.Proofs.YtpbjjhpihhnomaaGreatDoor
open Go Go.Abs
attribute [local irreducible] DrawW CallW RetW AC Does CmpW
variable {G : Globs}
def spL : Nat → List (Int × List UInt8) → List (Int × Nat × Nat)
  | _, [] => []
  | n, p :: l => if p.2 = [] then spL n l else (p.1, n, n + p.2.length) :: spL (n + p.2.length) l
def encSp (x : Int × Nat × Nat) : List AV := [.int .i64 x.1, .int .i64 (x.2.1 : Int), .int .i64 (x.2.2 : Int)]
theorem encSp_three (l : List (Int × Nat × Nat)) : ∀ y ∈ l.map encSp, y.length = 3 := fun y hy => by obtain ⟨z, _, rfl⟩ := List.mem_map.1 hy; rfl
theorem spL_len : ∀ (l : List (Int × List UInt8)) (n : Nat), (spL n l).length ≤ l.length
  | [], n => by simp [spL]
  | p :: l, n => by
    have h1 := spL_len l n
    have h2 := spL_len l (n + p.2.length)
    unfold spL
    split <;> simp only [List.length_cons] <;> omega
theorem Spans_does (l : List (Int × List UInt8)) (hl : l.length ≤ 1000) (ht : ∀ p ∈ l, p.2.length ≤ 100) : Does Tryz.prog G 22 [.fsl (l.map encPz)] [] fun ae _ => ae = .ret (.fsl ((spL 0 l).map encSp)) := by
  have ll : (l.map encPz).length = l.length := by simp
  refine Does.bodyA tab Tryz.func22 rfl rfl ?_
  refine AC.step tab ?_
  refine gos ?_
  refine AC.step tab ?_
  refine gos ?_
  refine AC.own 3 73 3 rfl (by decide) fun v0 => ?_
  refine AC.step tab ?_
  refine gos ?_
  refine AC.cutF tab (fun e h => ∃ va, e = (List.replicate 3 .any ++ [.sl 0 va] ++ List.replicate 30 .any) ∧ h = [some ⟨va, 73, 3, (spL 0 l).map encSp⟩]) ?_ ?_
  · refine gos ?_
    rw [ll]
    refine AC.loopC tab (fun f e h => ∃ (i n va : Nat) (dn : List (Int × Nat × Nat)), f + i = l.length + 1 ∧ i ≤ l.length ∧ n ≤ 100 * i ∧ dn.length ≤ i ∧ spL 0 l = dn ++ spL n (l.drop i) ∧
        e = (List.replicate 3 .any ++ [.sl 0 va, .int .i64 n] ++ List.replicate 3 .any ++ [.fsl (l.map encPz), .int .i64 l.length, .int .i64 i] ++ List.replicate 23 .any) ∧ h = [some ⟨va, 73, 3, dn.map encSp⟩]) (l.length + 1) ⟨_, fgts, 0, 0, v0, [], by omega, by omega, by omega, by simp, rfl, rfl, rfl⟩ ?_
    rintro f e h ⟨i, n, va, dn, hf, hi, hn, hdl, hF, rfl, rfl⟩
    refine gos ?_
    by_cases hlt : i < l.length
    · obtain ⟨p, hp⟩ : ∃ p, l[i]? = some p := ⟨_, List.getElem?_eq_getElem hlt⟩
      have hpl := ht p (List.mem_of_getElem? hp)
      rw [drop_cons' hp] at hF
      simp only [spL] at hF
      have ld : (dn.map encSp).length = dn.length := by simp
      refine CmpW.T ?_
      refine gos ?_
      refine And.intro (encPz_two l) (And.intro (by omega) ⟨encPz p, by rw [Int.toNat_natCast, List.getElem?_map, hp]; rfl, ?_⟩)
      refine gos ?_
      intro v2
      refine gos ?_
      by_cases h0 : p.2 = []
      · rw [if_pos h0] at hF
        refine CmpW.f (by simp [h0]) ?_
        refine gos ?_
        exact ⟨f - 1, _, 1, by omega, fgts, i + 1, n, va, dn, by omega, by omega, by omega, by omega, hF, rfl, rfl⟩
      · have hp0 : 0 < p.2.length := List.length_pos_iff.2 h0
        rw [if_neg h0] at hF
        refine CmpW.t (by simp; omega) ?_
        refine gos ?_
        intro v5
        refine gos ?_
        refine And.intro (And.intro (fun y hy => by rw [List.mem_singleton.1 hy]; rfl) (fun y hy => by rw [List.mem_singleton.1 hy]; rfl)) ?_
        refine gos ?_
        refine gobnd ?_
        intro v6
        refine gos ?_
        exact ⟨f - 1, _, 1, by omega, fgts, i + 1, n + p.2.length, _, dn ++ [(p.1, n, n + p.2.length)], by omega, by omega, by omega, by simp; omega, by rw [hF]; simp, rfl, by rw [List.map_append]; rfl⟩
    · refine CmpW.N ?_
      refine gos ?_
      rw [List.drop_of_length_le (by omega)] at hF
      simp only [spL, List.append_nil] at hF
      rw [hF]
      exact ⟨_, 1, fgts, va, rfl, rfl⟩
  rintro e h ⟨va, rfl, rfl⟩
  refine AC.go tab ?_
  refine gos ?_
  refine RetW.wk (r' := .fsl ((spL 0 l).map encSp)) (by simp) ?_ (Wk.row (k := 0) (i := 0) (o := ⟨va, 73, 3, (spL 0 l).map encSp⟩) rfl rfl rfl (cLL_map (fun _ => rfl) _)) ?_
  · rfl
  rfl
end Go.Proofs.YtpbjjhpihhnomaaGreatDoor

namespace Go.Proofs.YtpbjjhpihhnomaaGreatDoor
open Go Go.Abs
attribute [local irreducible] DrawW CallW RetW AC Does CmpW
variable {m : Int}
theorem flat_bound (l : List (Int × List UInt8)) (n : Nat) (h : ∀ p ∈ l, p.2.length ≤ n) : (l.flatMap (·.2)).length ≤ n * l.length := by
  induction l with
  | nil => simp
  | cons p l ih =>
    have h1 := ih fun q hq => h q (by simp [hq])
    have h2 := h p (by simp)
    simp only [List.flatMap_cons, List.length_append, List.length_cons, Nat.mul_add]
    omega
theorem GroupSpans_does (l : List (Int × List UInt8)) (hl : l.length ≤ 140737488355328) (hw : ∀ p ∈ l, p.2.length ≤ 140737488355328) :
    Does Tryz.prog (GL m) 6 [.fsl (l.map encPz)] [] fun ae _ => ae = .ret (.bool true) := by
  have ll : (l.map encPz).length = l.length := by simp
  refine Does.bodyA tab Tryz.func6 rfl rfl ?_
  refine AC.step tab ?_
  refine gos ?_
  refine AC.step tab ?_
  refine gos ?_
  refine CallW.pure head18_does rfl rfl ?_
  refine gos ?_
  refine AC.step tab ?_
  refine gos ?_
  rw [ll]
  by_cases h40 : 40 < l.length
  · refine CmpW.t (by simp; omega) ?_
    refine gos ?_
    refine RetW.plain (by simp) ?_
    rfl
  refine CmpW.f (by simp; omega) ?_
  refine gos ?_
  refine AC.step tab ?_
  refine gos ?_
  refine AC.step tab ?_
  refine gos ?_
  intro v0
  refine gos ?_
  refine AC.cutF tab (fun e h => ∃ va, (∀ p ∈ l, p.2.length ≤ 60) ∧ e = ([.fsl (l.map encPz)] ++ List.replicate 2 .any ++ [.str (l.flatMap (·.2)), .sl 0 va] ++ List.replicate 70 .any) ∧ h = [some ⟨va, 73, 3, (spL 0 l).map encSp⟩]) ?_ ?_
  · refine gos ?_
    rw [ll]
    refine AC.loopC tab (fun f e h => ∃ (i va : Nat) (w : List UInt8) (dn : List (Int × Nat × Nat)), f + i = l.length + 1 ∧ i ≤ l.length ∧ w = (l.take i).flatMap (·.2) ∧ (∀ p ∈ l.take i, p.2.length ≤ 60) ∧ dn.length ≤ i ∧ spL 0 l = dn ++ spL w.length (l.drop i) ∧
        e = ([.fsl (l.map encPz)] ++ List.replicate 2 .any ++ [.str w, .sl 0 va] ++ List.replicate 10 .any ++ [.fsl (l.map encPz), .int .i64 l.length, .int .i64 i] ++ List.replicate 57 .any) ∧ h = [some ⟨va, 73, 3, dn.map encSp⟩]) (l.length + 1)
      ⟨_, fgts, 0, v0, [], [], by omega, by omega, rfl, fun p hp => by simp at hp, by simp, rfl, rfl, rfl⟩ ?_
    rintro f e h ⟨i, va, w, dn, hf, hi, hwe, h60, hdl, hF, rfl, rfl⟩
    refine gos ?_
    by_cases hlt : i < l.length
    · obtain ⟨p, hp⟩ : ∃ p, l[i]? = some p := ⟨_, List.getElem?_eq_getElem hlt⟩
      have hpl := hw p (List.mem_of_getElem? hp)
      have hwb := flat_bound (l.take i) 60 h60
      rw [← hwe, List.length_take] at hwb
      have hsn := flat_snoc (fun q : Int × List UInt8 => q.2) hp
      rw [← hwe] at hsn
      rw [drop_cons' hp] at hF
      simp only [spL] at hF
      have ld : (dn.map encSp).length = dn.length := by simp
      refine CmpW.T ?_
      refine gos ?_
      refine And.intro (encPz_two l) (And.intro (by omega) ⟨encPz p, by rw [Int.toNat_natCast, List.getElem?_map, hp]; rfl, ?_⟩)
      refine gos ?_
      intro v2
      refine gos ?_
      by_cases hp60 : 60 < p.2.length
      · refine CmpW.t (by simp; omega) ?_
        refine gos ?_
        refine RetW.plain (by simp) ?_
        rfl
      refine CmpW.f (by simp; omega) ?_
      refine gos ?_
      have h60' : ∀ q ∈ l.take (i + 1), q.2.length ≤ 60 := fun q hq => by
        rw [List.take_add_one, hp] at hq
        rcases List.mem_append.1 hq with hq | hq
        · exact h60 q hq
        · have : q = p := by simpa using hq
          subst this; omega
      by_cases h0 : p.2 = []
      · rw [if_pos h0] at hF
        refine CmpW.f (by simp [h0]) ?_
        refine gos ?_
        refine And.intro (by simp; omega) ?_
        refine gos ?_
        exact ⟨f - 1, _, 1, by omega, fgts, i + 1, va, w ++ p.2, dn, by omega, by omega, hsn.symm, h60', by omega, by rw [h0, List.append_nil]; exact hF, rfl, rfl⟩
      · rw [if_neg h0] at hF
        refine CmpW.t (by simp [h0]) ?_
        refine gos ?_
        intro v5
        refine gos ?_
        refine And.intro (And.intro (fun y hy => by rw [List.mem_singleton.1 hy]; rfl) (fun y hy => by rw [List.mem_singleton.1 hy]; rfl)) ?_
        refine gos ?_
        refine gobnd ?_
        intro v6
        refine gos ?_
        refine And.intro (by simp; omega) ?_
        refine gos ?_
        exact ⟨f - 1, _, 1, by omega, fgts, i + 1, _, w ++ p.2, dn ++ [(p.1, w.length, w.length + p.2.length)], by omega, by omega, hsn.symm, h60', by simp; omega, by rw [hF, List.length_append]; simp, rfl, by rw [List.map_append]; rfl⟩
    · refine CmpW.N ?_
      refine gos ?_
      have : i = l.length := by omega
      subst this
      rw [List.take_length] at hwe h60
      rw [List.drop_length] at hF
      simp only [spL, List.append_nil] at hF
      rw [hF]
      subst hwe
      exact ⟨_, 1, fgts, va, h60, rfl, rfl⟩
  rintro e h ⟨va, h60, rfl, rfl⟩
  have hb := flat_bound l 60 h60
  have hsl := spL_len l 0
  have dS := Spans_does (G := GL m) l (by omega) (fun p hp => by have := h60 p hp; omega)
  have dT := GTextG_does (G := GL m) (fun p : Int × List UInt8 => p.1) (fun p => p.2) l (by omega) (by omega)
  rw [show (l.map fun p : Int × List UInt8 => ([.int .i64 p.1, .str p.2] : List AV)) = l.map encPz from rfl] at dT
  refine AC.wk (Wk.row (k := 4) (i := 0) rfl rfl rfl (cLL_map (fun _ => rfl) _)) ?_
  generalize spL 0 l = S at *
  have lS : (S.map encSp).length = S.length := by simp
  refine AC.step tab ?_
  refine gos ?_
  refine CallW.pure dS rfl rfl ?_
  refine gos ?_
  refine AC.step tab ?_
  refine gos ?_
  refine CallW.pure dT rfl rfl ?_
  refine gos ?_
  refine CmpW.f (by simp) ?_
  refine gos ?_
  refine CmpW.f (by simp) ?_
  refine gos ?_
  refine AC.cutF tab (fun e h => e = List.replicate 75 .any ∧ h = []) ?_ ?_
  · refine gos ?_
    rw [lS]
    refine AC.loopC tab (fun f e h => ∃ (i : Nat), f + i = S.length + 1 ∧ i ≤ S.length ∧ e = (List.replicate 4 .any ++ [.fsl (S.map encSp)] ++ List.replicate 2 .any ++ [.fsl (S.map encSp)] ++ List.replicate 52 .any ++ [.fsl (S.map encSp), .int .i64 S.length, .int .i64 i] ++ List.replicate 12 .any) ∧ h = [none]) (S.length + 1) ⟨_, fgts, 0, by omega, by omega, rfl, rfl⟩ ?_
    rintro f e h ⟨i, hf, hi, rfl, rfl⟩
    refine gos ?_
    by_cases hlt : i < S.length
    · obtain ⟨p, hp⟩ : ∃ p, S[i]? = some p := ⟨_, List.getElem?_eq_getElem hlt⟩
      refine CmpW.T ?_
      refine gos ?_
      refine DrawW.L ?_
      refine gos ?_
      refine And.intro (encSp_three S) (And.intro (by omega) ⟨encSp p, by rw [Int.toNat_natCast, List.getElem?_map, hp]; rfl, ?_⟩)
      refine gos ?_
      refine And.intro (encSp_three S) (And.intro (by omega) ⟨encSp p, by rw [Int.toNat_natCast, List.getElem?_map, hp]; rfl, ?_⟩)
      refine gos ?_
      refine CmpW.f (by simp) ?_
      refine gos ?_
      exact ⟨f - 1, _, 1, by omega, fgts, i + 1, by omega, by omega, rfl, rfl⟩
    · refine CmpW.N ?_
      refine gos ?_
      exact ⟨_, 0, fgts, rfl, rfl⟩
  rintro e h ⟨rfl, rfl⟩
  refine AC.go tab ?_
  refine gos ?_
  refine RetW.plain (by simp) ?_
  rfl
end Go.Proofs.YtpbjjhpihhnomaaGreatDoor

namespace Go.Proofs.YtpbjjhpihhnomaaGreatDoor
open Go Go.Abs Go.Opn
theorem oKind : Opnd Tryz.prog 31 1 (fun z : Int => [.int .i64 z]) (fun _ => True) := (Opnd.int Tryz.underlying31 (by kernel_rfl)).map id (fun _ => rfl) (fun _ _ => trivial)
theorem oPart : Opnd Tryz.prog 33 2 encPz (fun x => x.2.length ≤ 140737488355328) := by
  have h := Opnd.struct (n := 1 + (1 + 0)) Tryz.underlying33 (by kernel_rfl) (OpndFs.cons oKind rfl (OpndFs.cons oStr rfl (OpndFs.nil _)))
  exact h.map (fun x => (x.1, x.2.1)) (fun _ => rfl) (fun x h => reach_le h.2.1)
theorem oParts : Opnd Tryz.prog 29 1 (fun l : List (Int × List UInt8) => [.fsl (l.map encPz)]) (fun l => l.length ≤ 140737488355328 ∧ ∀ p ∈ l, p.2.length ≤ 140737488355328) :=
  (Opnd.slice Tryz.underlying29 (by kernel_rfl) (by omega) (of_decide_eq_true (by kernel_rfl)) oPart).map id (fun _ => rfl) (fun x h => ⟨reach_le h.1, h.2⟩)
theorem GroupSpans_ok (m : Int) (l : List (Int × List UInt8)) (hl : l.length ≤ 140737488355328 ∧ ∀ p ∈ l, p.2.length ≤ 140737488355328) : Does Tryz.prog (GL m) 6 [.fsl (l.map encPz)] [] fun ae _ => ae = .ret (.bool true) :=
  GroupSpans_does l hl.1 hl.2
end Go.Proofs.YtpbjjhpihhnomaaGreatDoor

namespace Go.Proofs.YtpbjjhpihhnomaaGreatDoor
open Go Go.Abs Go.Shelf Go.Opn
open Go.ChangeShapes Go.WideShapes Go.ChangeAt Go.RowKit
theorem groupSpans_own : ownKnob Tryz.prog.godebug = none := by kernel_rfl
theorem groupSpans_lout : laidOutB Tryz.prog = true := by kernel_rfl
noncomputable def groupSpans_world (os : Os) : World := World.laidAll Tryz.prog os Rows.groupSpansRow.laid
theorem groupSpans_laid (os : Os) (args : Array Value) : laidMet Tryz.prog Rows.groupSpansRow.laid ((groupSpans_world os).forCall (fun _ _ => 0) ⟨#[], args, []⟩).memory :=
  laidMet_laidAll args (by kernel_rfl) (by kernel_rfl)
set_option maxRecDepth 100000 in
theorem groupSpans_lifted (os : Os) (started : os.Started) (H : Type) (enc : TypeId × Value → H) :
    ReturnsInHanded {} Tryz.checked os 6 .any (fun w args => (Rows.groupSpansSpec.pre enc Tryz.prog Tryz.f6 Rows.groupSpansRow.domain false w args ∧ laidMetH Tryz.prog Rows.groupSpansRow.laid w) ∧ sizedMet enc Tryz.prog Tryz.f6 (OpenSpec.ofChange Rows.groupSpansSpec) false w args)
      (Rows.groupSpansSpec.post enc Tryz.prog Tryz.f6 false true false false) := by
  refine returns_both (C := Tryz.checked) (X := fun w _ => laidMetH Tryz.prog Rows.groupSpansRow.laid w) (fun _ _ _ hh h => h.of_heap hh) groupSpans_own started (by kernel_rfl) Tryz.func6
    (ChangeSpec.witness_at (enc := enc) (C := Tryz.checked) (os := os) (X := fun w _ => laidMetH Tryz.prog Rows.groupSpansRow.laid w) false (groupSpans_world os) #[.slice none 0 0] 8 (World.laidAll_os _ _ _) (by kernel_rfl) (by kernel_rfl) (by kernel_rfl) (by kernel_rfl) (by kernel_rfl) (groupSpans_laid os _)) ?_
  intro W base args ds gs before hval0 hW _ hsz0 hL hsh _
  have hsz : (DataW.weightsEach Tryz.prog (Tryz.f6.params.toList ++ Rows.groupSpansSpec.plain.varTypes Tryz.prog) (ds ++ gs)).all (· ≤ reachBytes) = true := hsz0
  have hval : ∀ (j : Nat) t v, Tryz.f6.params[j]? = some t → args[j]? = some v → Value.okWide Tryz.prog W .any base t v := hval0
  have hW1 := hW
  obtain ⟨p, q, hA0, hV, rfl, hfz, hnd⟩ := hW
  have hA : DataW.TrodAll enc Tryz.prog W 0 (fun _ => true) true Tryz.f6.params.toList args.toList ds p := hA0
  rw [Tryz.params6] at hA hval hsz
  obtain ⟨v0, vs0, d0, e0, p0, q0, hargs, rfl, rfl, h0, r0⟩ := trodAll_cons hA
  obtain ⟨rfl, rfl, rfl⟩ := trodAll_nil r0
  obtain rfl : args = #[v0] := by cases args; simp_all
  obtain ⟨rfl, rfl⟩ := trodVars_none hV
  have l0 : ∀ x ∈ p0, x.block < W.heap.size := fun x hx => by simpa using hW1.lt x (by simp [hx])
  have z0 : Sized Tryz.prog 29 d0 := Sized.of_each hsz (i := 0) rfl rfl
  obtain ⟨x0, w0, k0⟩ := oParts.one (g := _) (slice_cells Tryz.underlying29 (hval 0 29 v0 rfl rfl)) h0 z0
  clear hA0 hval0 hsz0 hsz
  have hL1 : laidMet Tryz.prog Rows.groupSpansRow.laid W := hL
  have hU : Lib.Utf8Tabs 0 1 W :=
    utf8Tabs_of_reads (ρ := Tryz.lays197_ren) { Tryz.lays197 with } ⟨by kernel_rfl, by kernel_rfl, by kernel_rfl, by kernel_rfl, by kernel_rfl, by kernel_rfl, by kernel_rfl⟩
      (Lib.laidMet.reads hL1 (.tail _ (.tail _ (.tail _ (.tail _ (.tail _ (.tail _ (.head _)))))))) (Lib.laidMet.reads hL1 (.tail _ (.tail _ (.tail _ (.head _)))))
  obtain ⟨m, hm⟩ : ∃ m, W.cell? ⟨2, 0, none⟩ = some (.int .i64 m) := cell_of_shapedOpen_int (P := Tryz.prog) (t := 3) (zero := #[.int .i64 0]) hsh (of_decide_eq_true (by kernel_rfl)) (by kernel_rfl) rfl (by kernel_rfl) (by kernel_rfl) Tryz.underlying3
  refine (Does.law (GroupSpans_ok m x0 w0) Tryz.func6 rfl rfl (top_GL hU hm) (cargs := #[v0]) (by simp only [RepL]; exact ⟨_, _, rfl, k0, rfl⟩)).mono fun e W2 ⟨he, bel⟩ => ?_
  subst he
  exact ⟨_, rfl, _, _, _, [], _, [], hW1, trodAll_mk1 (shut_bool Tryz.underlying4 _), ⟨_, _, (Below.trod groupSpans_lout (by kernel_rfl) (of_decide_eq_true (by kernel_rfl)) h0 bel l0), trodAll_mk0, rfl⟩, rfl, bel.frame _, fun h => by cases h⟩
theorem groupSpans_holds : Rows.GroupSpansSaid :=
  OpenClaim.holds_of_wide 6 Tryz.f6 rfl rfl rfl rfl rfl rfl rfl ⟨rfl, rfl, rfl, rfl, rfl⟩ rfl rfl rfl rfl rfl (by kernel_rfl) Tryz.func6 groupSpans_joined
    (of_decide_eq_true (by kernel_rfl)) (by unfold Func.isWrapper; rw [if_neg (of_decide_eq_false (by kernel_rfl))]; exact ⟨rfl, rfl⟩)
    (fun os started H enc _ => groupSpans_lifted os started H enc)
end Go.Proofs.YtpbjjhpihhnomaaGreatDoor

namespace Go.Proofs.YtpbjjhpihhnomaaGreatDoor
open Go
theorem groupSpans_c1 : Rows.groupSpansRow.wfByText (OpenSpec.ofChange Rows.groupSpansSpec) = true := by kernel_rfl
theorem groupSpans_c2 : Tryz.prog.mainIs = some ((true, "48a24817cee2ea25fcacd8d4c2f04619d293d9d164808228d1d6e1fc644b1e63").1, (true, "48a24817cee2ea25fcacd8d4c2f04619d293d9d164808228d1d6e1fc644b1e63").2.toList) := by kernel_rfl
theorem groupSpans_c3 : Tryz.prog.funcNamed "florin/florinlaw18.GroupSpans" = some 6 := by kernel_rfl
theorem groupSpans_c4 : true = Tryz.prog.looks [] := by kernel_rfl
theorem groupSpans_c6 : false = Rows.groupSpansRow.goesBy Tryz.prog := by kernel_rfl
theorem groupSpans_card : Rows.GroupSpansCardSaid :=
  Claim7.holds_tied_plain_at .later [] [.data, .data, .data, .data, .sentinel, .sentinel, .pinned] true (true, "48a24817cee2ea25fcacd8d4c2f04619d293d9d164808228d1d6e1fc644b1e63") true
    groupSpans_holds (fun _ h => by cases h) groupSpans_c1 (fun _ h => by cases h) groupSpans_row_tie rfl ⟨rfl, rfl⟩ groupSpans_c2 rfl
    (fun f fn hf hfn => by
      obtain rfl : f = 6 := Option.some.inj (groupSpans_c3.symm.trans hf) |>.symm
      obtain rfl : fn = Tryz.f6 := (Option.some.inj (Tryz.func6.symm.trans hfn)).symm
      exact ⟨groupSpans_c4, fun j t ht => by
        rw [Tryz.params6] at ht
        have h3 : t = 29 := by
          rcases j with _ | j
          · exact (by simpa using ht.symm)
          · simp at ht
        rcases h3 with rfl
        · exact (show Tryz.prog.wantsStandIn 29 = false by kernel_rfl)⟩)
    groupSpans_c6
#print axioms groupSpans_card
end Go.Proofs.YtpbjjhpihhnomaaGreatDoor
