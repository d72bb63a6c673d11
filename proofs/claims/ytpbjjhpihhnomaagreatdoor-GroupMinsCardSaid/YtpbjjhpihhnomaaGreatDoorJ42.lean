/- Proved: for all arguments, florinlaw18.GroupMins returns true, and its arguments read behind the call as they read before. Conditions: none but the row's own (package variables read as the program's text sets them, which the card ties). -/
import Derived.Test.YtpbjjhpihhnomaaGreatDoorJ41
import Derived.Test.YtpbjjhpihhnomaaGreatDoorJ35
import Derived.Test.YtpbjjhpihhnomaaGreatDoorRows
import Derived.Test.YtpbjjhpihhnomaaGreatDoorJ50
import Derived.Test.YtpbjjhpihhnomaaGreatDoorJ14
import Derived.Test.YtpbjjhpihhnomaaGreatDoorJ07
import Derived.Test.YtpbjjhpihhnomaaGreatDoorAbsC
import Derived.Lib.LaidU8
import Derived.Lib.LaidIn
import Derived.Shelf.Vars
import Derived.ProofKit
import Derived.ChangeOld
import Derived.Carry
import Derived.Lay
import Derived.Test.YtpbjjhpihhnomaaGreatDoorTie
import Derived.Test.YtpbjjhpihhnomaaGreatDoorCards
import Derived.SevenTiedAt
set_option linter.unusedVariables false
set_option linter.unusedSimpArgs false
set_option maxRecDepth 100000
set_option maxHeartbeats 4000000

namespace Go.Proofs.YtpbjjhpihhnomaaGreatDoor
open Go Go.Abs
attribute [local irreducible] DrawW CallW RetW AC Does CmpW
variable {m : Int}
open Gpl (Part commasP digitsP)
theorem Does.nil2 {P : Program} {G : Globs} {f : FuncId} {x : AV} {O : AHeap} {Q : AEnd → AHeap → Prop} (h : Does P G f [x, .fsl []] O Q) : Does P G f [x, .nils] O Q := by
  unfold Does at *
  intro C cargs hg hs hr
  refine h C cargs hg hs ?_
  simp only [RepL, RepV, RepF] at hr ⊢
  obtain ⟨u, r, rfl, h1, u2, r2, rfl, h2, rfl⟩ := hr
  exact ⟨u, _, rfl, h1, u2, _, rfl, by subst h2; exact ⟨none, 0, Nat.le_refl _, rfl, .inl (by simp)⟩, rfl⟩
theorem and7 (x : Int) : ∃ k : Nat, 1 ≤ k ∧ k ≤ 8 ∧ IntKind.i64.wrap (1 + IntKind.i64.wrap ((BitVec.ofInt IntKind.i64.bits x &&& BitVec.ofInt IntKind.i64.bits 7).toNat : Int)) = k := by
  have h : (BitVec.ofInt IntKind.i64.bits x &&& BitVec.ofInt IntKind.i64.bits 7).toNat ≤ 7 := by
    rw [BitVec.toNat_and]
    exact Nat.le_trans Nat.and_le_right (by decide)
  generalize (BitVec.ofInt IntKind.i64.bits x &&& BitVec.ofInt IntKind.i64.bits 7).toNat = y at h
  exact ⟨1 + y, by omega, by omega, by rw [IntKind.wrap_i64, IntKind.wrap_i64]; omega⟩
theorem GroupMins_does (n : Int) (a : List UInt8) (ha : a.length ≤ 140737488355328) (last more : Int) : Does Tryz.prog (GL m) 3 [.int .i64 n, .fsl (byteEs' a), .int .i64 last, .int .i64 more] [] fun ae _ => ae = .ret (.bool true) := by
  have la : (byteEs' a).length = a.length := by simp [byteEs']
  have k := gokB n
  have dB := Base18_does (m := m) n
  generalize restB n = R at *
  generalize baseF n = t at *
  refine Does.bodyA tab Tryz.func3 rfl rfl ?_
  refine AC.step tab ?_
  refine gos ?_
  refine AC.step tab ?_
  refine gos ?_
  refine CallW.pure head18_does rfl rfl ?_
  refine gos ?_
  refine AC.step tab ?_
  refine gos ?_
  rw [la]
  by_cases h60 : 60 < a.length
  · refine CmpW.t (by simp; omega) ?_
    refine gos ?_
    refine RetW.plain (by simp) ?_
    rfl
  refine CmpW.f (by simp; omega) ?_
  refine gos ?_
  refine AC.step tab ?_
  refine gos ?_
  refine CallW.pure dB rfl rfl ?_
  refine gos ?_
  refine AC.step tab ?_
  refine gos ?_
  have dS := Does.nil2 (Shown_does (G := GL m) a [] (by omega) (by simp))
  have so := shown_ok a []
  have sl := shown_len a []
  have sf : (shownF a []).frac = [] := rfl
  generalize shownF a [] = v at *
  refine AC.step tab ?_
  refine gos ?_
  refine CallW.pure dS rfl rfl ?_
  refine gos ?_
  intro v1
  refine gos ?_
  refine AC.wk (Wk.ptr (k := 10) (i := 0) rfl rfl rfl rfl rfl) ?_
  refine AC.step tab ?_
  refine gos ?_
  obtain ⟨k1, h1, h1', e1⟩ := and7 last
  obtain ⟨k2, h2, h2', e2⟩ := and7 more
  rw [e1]
  refine gos ?_
  refine AC.step tab ?_
  refine gos ?_
  rw [e2]
  refine gos ?_
  refine AC.step tab ?_
  refine gos ?_
  refine AC.step tab ?_
  refine gos ?_
  have dW := GWrite_does (G := GL m) t R v k1 k2 (by omega) (by omega) k.mg so.1 so.2 (by rw [sf]; simp; omega) (fun d hd => (k.dl d hd).1)
  obtain ⟨L, hL⟩ : ∃ L, L = gwrF t v k1 k2 := ⟨_, rfl⟩
  rw [← hL] at dW
  have hc : commasP L = (Gpl.cutsF v.int.length k1 k2 t.minGroup).length - 1 := by
    rw [hL]; unfold gwrF fracP
    rw [if_pos sf, List.append_nil, Gpl.wrG_commas]
    cases Gpl.cutsF v.int.length k1 k2 t.minGroup <;> rfl
  have hd : digitsP L = wrSet (dsT t) v.int := by
    rw [hL]; unfold gwrF fracP
    rw [if_pos sf, List.append_nil]
    exact Gpl.wrG_digits (fun c : UInt8 => (dsT t).getD (c.toNat - 48) []) t.comma _ v.int true (Gpl.cuts_sum k.mg.1)
  have hm := Gpl.cuts_many (n := v.int.length) (last := k1) (more := k2) (least := t.minGroup) (by omega) (by omega) k.mg.1
  have ll : (L.map encPt).length = L.length := by simp
  have hLl : L.length ≤ 5000 := by
    have h5 := wrG_len (wrSet (dsT t)) t.comma (Gpl.cutsF v.int.length k1 k2 t.minGroup) true v.int
    have h6 := cuts_len v.int.length k1 k2 t.minGroup
    rw [hL]; unfold gwrF fracP
    rw [if_pos sf, List.append_nil]
    omega
  have hT : ∀ i, (digitsP (L.take i)).length ≤ 100000 := fun i => by
    have h5 : digitsP L = digitsP (L.take i) ++ digitsP (L.drop i) := by
      unfold digitsP; rw [← List.flatMap_append, ← List.filter_append, List.take_append_drop]
    have h6 := wrSet_len (fun d hd => (k.dl d hd).1) v.int (ds := dsT t)
    rw [← hd, h5, List.length_append] at h6
    omega
  refine AC.cutF tab (fun e h => ∃ (cm : Nat) (dg : List UInt8), cm = commasP L ∧ dg = digitsP L ∧ e = (List.replicate 2 .any ++ [.int .i64 k1, .int .i64 k2] ++ List.replicate 5 .any ++ [.fptr (tabC t ++ R), .fptr (visC v), .str dg, .int .i64 cm] ++ List.replicate 76 .any) ∧ h = [none]) ?_ ?_
  · refine gos ?_
    refine CallW.pure dW rfl rfl ?_
    refine gos ?_
    rw [ll]
    refine AC.loopC tab (fun f e h => ∃ (i cm : Nat) (dg : List UInt8), f + i = L.length + 1 ∧ i ≤ L.length ∧ cm = commasP (L.take i) ∧ dg = digitsP (L.take i) ∧
        e = (List.replicate 2 .any ++ [.int .i64 k1, .int .i64 k2] ++ List.replicate 5 .any ++ [.fptr (tabC t ++ R), .fptr (visC v), .str dg, .int .i64 cm] ++ List.replicate 24 .any ++ [.fsl (L.map encPt), .int .i64 L.length, .int .i64 i] ++ List.replicate 49 .any) ∧ h = [none]) (L.length + 1)
      ⟨_, fgts, 0, 0, [], by omega, by omega, rfl, rfl, rfl, rfl⟩ ?_
    rintro f e h ⟨i, cm, dg, hf, hi, hcm, hdg, rfl, rfl⟩
    refine gos ?_
    by_cases hlt : i < L.length
    · obtain ⟨p, hp⟩ : ∃ p, L[i]? = some p := ⟨_, List.getElem?_eq_getElem hlt⟩
      have hti : L.take (i + 1) = L.take i ++ [p] := by rw [List.take_add_one, hp]; rfl
      have hT1 := hT (i + 1)
      have hC1 : commasP (L.take i) ≤ 5000 := by unfold commasP; exact Nat.le_trans (List.length_filter_le _ _) (by rw [List.length_take]; omega)
      refine CmpW.T ?_
      refine gos ?_
      refine And.intro (encPt_two L) (And.intro (by omega) ⟨encPt p, by rw [Int.toNat_natCast, List.getElem?_map, hp]; rfl, ?_⟩)
      refine gos ?_
      intro v2
      refine gos ?_
      by_cases hk : p.kind = 2
      · have hcc : commasP (L.take (i + 1)) = commasP (L.take i) + 1 := by rw [hti]; unfold commasP; simp [hk]
        have hdd : digitsP (L.take (i + 1)) = digitsP (L.take i) := by rw [hti]; unfold digitsP; simp [hk]
        refine CmpW.t (by simp [hk]) ?_
        refine gos ?_
        exact ⟨f - 1, _, 1, by omega, fgts, i + 1, cm + 1, dg, by omega, by omega, by rw [hcc, hcm], by rw [hdd, hdg], rfl, rfl⟩
      · have hcc : commasP (L.take (i + 1)) = commasP (L.take i) := by rw [hti]; unfold commasP; simp [hk]
        have hdd : digitsP (L.take (i + 1)) = digitsP (L.take i) ++ p.text := by rw [hti]; unfold digitsP; simp [hk]
        refine CmpW.f (by simp; omega) ?_
        refine gos ?_
        rw [hdd, ← hdg, List.length_append] at hT1
        refine And.intro (by simp; omega) ?_
        refine gos ?_
        exact ⟨f - 1, _, 1, by omega, fgts, i + 1, cm, _, by omega, by omega, by rw [hcc, hcm], by rw [hdd, hdg], rfl, rfl⟩
    · refine CmpW.N ?_
      refine gos ?_
      have : i = L.length := by omega
      subst this
      rw [List.take_length] at hcm hdg
      exact ⟨_, 1, fgts, cm, dg, hcm, hdg, rfl, rfl⟩
  rintro e h ⟨cm, dg, hcm, hdg, rfl, rfl⟩
  rw [hd] at hdg
  rw [hc] at hcm
  have dD := SetWrite_does (G := GL m) t.dg.d0 t.dg.d1 t.dg.d2 t.dg.d3 t.dg.d4 t.dg.d5 t.dg.d6 t.dg.d7 t.dg.d8 t.dg.d9 v.int (by omega) so.1 (fun d hd => (k.dl d hd).1)
  rw [show [t.dg.d0, t.dg.d1, t.dg.d2, t.dg.d3, t.dg.d4, t.dg.d5, t.dg.d6, t.dg.d7, t.dg.d8, t.dg.d9] = dsT t from rfl, ← hdg] at dD
  have kmg := k.mg
  refine AC.step tab ?_
  refine gos ?_
  refine AC.cutF tab (fun e h => ∃ w : Int, w = cm ∧ e = (List.replicate 9 .any ++ [.fptr (tabC t ++ R), .fptr (visC v), .str dg, .int .i64 cm] ++ List.replicate 2 .any ++ [.int .i64 w] ++ List.replicate 73 .any) ∧ h = [none]) ?_ ?_
  · refine gos ?_
    refine DrawW.L ?_
    refine gos ?_
    by_cases hg : (k1 : Int) + t.minGroup ≤ v.int.length
    · rw [if_pos hg] at hm
      have hq : (0 : Int) ≤ ((v.int.length : Int) - k1 + k2 - 1) / k2 := Int.ediv_nonneg (by omega) (by omega)
      have hq2 : ((v.int.length : Int) - k1 + k2 - 1) / k2 = cm := by omega
      refine CmpW.t (by simp; omega) ?_
      refine gos ?_
      refine And.intro (by omega) ⟨(cm : Int), ?_, ?_⟩
      · rw [Int.tdiv_eq_ediv_of_nonneg (by omega), hq2]
        have h6 := cuts_len v.int.length k1 k2 t.minGroup
        exact wrap_i64 (by omega) (by omega)
      refine gos ?_
      exact ⟨_, 1, fgts, _, rfl, rfl, rfl⟩
    · rw [if_neg hg] at hm
      refine CmpW.f (by simp; omega) ?_
      refine gos ?_
      exact ⟨_, 1, fgts, 0, by omega, rfl, rfl⟩
  rintro e h ⟨w, rfl, rfl, rfl⟩
  refine AC.go tab ?_
  refine gos ?_
  refine DrawW.L ?_
  refine gos ?_
  refine CmpW.t (by simp) ?_
  refine gos ?_
  refine CallW.pure dD rfl rfl ?_
  refine gos ?_
  refine CmpW.t (by simp) ?_
  refine gos ?_
  refine RetW.plain (by simp) ?_
  rfl
end Go.Proofs.YtpbjjhpihhnomaaGreatDoor

namespace Go.Proofs.YtpbjjhpihhnomaaGreatDoor
open Go Go.Abs Go.Opn
theorem GroupMins_ok (m : Int) (n : Int) (l : List Int) (last more : Int) (hl : l.length ≤ 140737488355328 ∧ ∀ z ∈ l, 0 ≤ z ∧ z ≤ 255) :
    Does Tryz.prog (GL m) 3 [.int .i64 n, .fsl (l.map byE), .int .i64 last, .int .i64 more] [] fun ae _ => ae = .ret (.bool true) := by
  rw [byE_eq l hl.2]
  exact GroupMins_does n _ (by rw [List.length_map]; exact hl.1) last more
end Go.Proofs.YtpbjjhpihhnomaaGreatDoor

namespace Go.Proofs.YtpbjjhpihhnomaaGreatDoor
open Go Go.Abs Go.Shelf Go.Opn
open Go.ChangeShapes Go.WideShapes Go.ChangeAt Go.RowKit
theorem groupMins_own : ownKnob Tryz.prog.godebug = none := by kernel_rfl
theorem groupMins_lout : laidOutB Tryz.prog = true := by kernel_rfl
noncomputable def groupMins_world (os : Os) : World := World.laidAll Tryz.prog os Rows.groupMinsRow.laid
theorem groupMins_laid (os : Os) (args : Array Value) : laidMet Tryz.prog Rows.groupMinsRow.laid ((groupMins_world os).forCall (fun _ _ => 0) ⟨#[], args, []⟩).memory :=
  laidMet_laidAll args (by kernel_rfl) (by kernel_rfl)
set_option maxRecDepth 100000 in
theorem groupMins_lifted (os : Os) (started : os.Started) (H : Type) (enc : TypeId × Value → H) :
    ReturnsInHanded {} Tryz.checked os 3 .any (fun w args => (Rows.groupMinsSpec.pre enc Tryz.prog Tryz.f3 Rows.groupMinsRow.domain false w args ∧ laidMetH Tryz.prog Rows.groupMinsRow.laid w) ∧ sizedMet enc Tryz.prog Tryz.f3 (OpenSpec.ofChange Rows.groupMinsSpec) false w args)
      (Rows.groupMinsSpec.post enc Tryz.prog Tryz.f3 false true false false) := by
  refine returns_both (C := Tryz.checked) (X := fun w _ => laidMetH Tryz.prog Rows.groupMinsRow.laid w) (fun _ _ _ hh h => h.of_heap hh) groupMins_own started (by kernel_rfl) Tryz.func3
    (ChangeSpec.witness_at (enc := enc) (C := Tryz.checked) (os := os) (X := fun w _ => laidMetH Tryz.prog Rows.groupMinsRow.laid w) false (groupMins_world os) #[.int .i64 0, .slice none 0 0, .int .i64 0, .int .i64 0] 8 (World.laidAll_os _ _ _) (by kernel_rfl) (by kernel_rfl) (by kernel_rfl) (by kernel_rfl) (by kernel_rfl) (groupMins_laid os _)) ?_
  intro W base args ds gs before hval0 hW _ hsz0 hL hsh _
  have hsz : (DataW.weightsEach Tryz.prog (Tryz.f3.params.toList ++ Rows.groupMinsSpec.plain.varTypes Tryz.prog) (ds ++ gs)).all (· ≤ reachBytes) = true := hsz0
  have hval : ∀ (j : Nat) t v, Tryz.f3.params[j]? = some t → args[j]? = some v → Value.okWide Tryz.prog W .any base t v := hval0
  have hW1 := hW
  obtain ⟨p, q, hA0, hV, rfl, hfz, hnd⟩ := hW
  have hA : DataW.TrodAll enc Tryz.prog W 0 (fun _ => true) true Tryz.f3.params.toList args.toList ds p := hA0
  rw [Tryz.params3] at hA hval hsz
  obtain ⟨v0, vs0, d0, e0, p0, q0, hargs, rfl, rfl, h0, r0⟩ := trodAll_cons hA
  obtain ⟨v1, vs1, d1, e1, p1, q1, rfl, rfl, rfl, h1, r1⟩ := trodAll_cons r0
  obtain ⟨v2, vs2, d2, e2, p2, q2, rfl, rfl, rfl, h2, r2⟩ := trodAll_cons r1
  obtain ⟨v3, vs3, d3, e3, p3, q3, rfl, rfl, rfl, h3, r3⟩ := trodAll_cons r2
  obtain ⟨rfl, rfl, rfl⟩ := trodAll_nil r3
  obtain rfl : args = #[v0, v1, v2, v3] := by cases args; simp_all
  obtain ⟨rfl, rfl⟩ := trodVars_none hV
  have l1 : ∀ x ∈ p1, x.block < W.heap.size := fun x hx => by simpa using hW1.lt x (by simp [hx])
  obtain ⟨x0, rfl, rfl, rfl, w0⟩ := open_int Tryz.underlying3 (hval 0 3 v0 rfl rfl) h0
  have z1 : Sized Tryz.prog 22 d1 := Sized.of_each hsz (i := 1) rfl rfl
  obtain ⟨x1, w1, k1⟩ := oBytes.one (g := _) (slice_cells Tryz.underlying22 (hval 1 22 v1 rfl rfl)) h1 z1
  obtain ⟨x2, rfl, rfl, rfl, w2⟩ := open_int Tryz.underlying3 (hval 2 3 v2 rfl rfl) h2
  obtain ⟨x3, rfl, rfl, rfl, w3⟩ := open_int Tryz.underlying3 (hval 3 3 v3 rfl rfl) h3
  clear hA0 hval0 hsz0 hsz
  have hL1 : laidMet Tryz.prog Rows.groupMinsRow.laid W := hL
  have hU : Lib.Utf8Tabs 0 1 W :=
    utf8Tabs_of_reads (ρ := Tryz.lays197_ren) { Tryz.lays197 with } ⟨by kernel_rfl, by kernel_rfl, by kernel_rfl, by kernel_rfl, by kernel_rfl, by kernel_rfl, by kernel_rfl⟩
      (Lib.laidMet.reads hL1 (.tail _ (.tail _ (.tail _ (.tail _ (.tail _ (.tail _ (.head _)))))))) (Lib.laidMet.reads hL1 (.tail _ (.tail _ (.tail _ (.head _)))))
  obtain ⟨m, hm⟩ : ∃ m, W.cell? ⟨2, 0, none⟩ = some (.int .i64 m) := cell_of_shapedOpen_int (P := Tryz.prog) (t := 3) (zero := #[.int .i64 0]) hsh (of_decide_eq_true (by kernel_rfl)) (by kernel_rfl) rfl (by kernel_rfl) (by kernel_rfl) Tryz.underlying3
  refine (Does.law (GroupMins_ok m x0 x1 x2 x3 w1) Tryz.func3 rfl rfl (top_GL hU hm) (cargs := #[.int .i64 x0, v1, .int .i64 x2, .int .i64 x3]) (by simp only [RepL]; exact ⟨_, _, rfl, (by simp only [RepV, RepF]), _, _, rfl, k1, _, _, rfl, (by simp only [RepV, RepF]), _, _, rfl, (by simp only [RepV, RepF]), rfl⟩)).mono fun e W2 ⟨he, bel⟩ => ?_
  subst he
  exact ⟨_, rfl, _, _, _, [], _, [], hW1, trodAll_mk1 (shut_bool Tryz.underlying4 _), ⟨_, _, (shut_int Tryz.underlying3 w0), ⟨_, _, (Below.trod groupMins_lout (by kernel_rfl) (of_decide_eq_true (by kernel_rfl)) h1 bel l1), ⟨_, _, (shut_int Tryz.underlying3 w2), ⟨_, _, (shut_int Tryz.underlying3 w3), trodAll_mk0, rfl⟩, rfl⟩, rfl⟩, rfl⟩, rfl, bel.frame _, fun h => by cases h⟩
theorem groupMins_holds : Rows.GroupMinsSaid :=
  OpenClaim.holds_of_wide 3 Tryz.f3 rfl rfl rfl rfl rfl rfl rfl ⟨rfl, rfl, rfl, rfl, rfl⟩ rfl rfl rfl rfl rfl (by kernel_rfl) Tryz.func3 groupMins_joined
    (of_decide_eq_true (by kernel_rfl)) (by unfold Func.isWrapper; rw [if_neg (of_decide_eq_false (by kernel_rfl))]; exact ⟨rfl, rfl⟩)
    (fun os started H enc _ => groupMins_lifted os started H enc)
end Go.Proofs.YtpbjjhpihhnomaaGreatDoor

namespace Go.Proofs.YtpbjjhpihhnomaaGreatDoor
open Go
theorem groupMins_c1 : Rows.groupMinsRow.wfByText (OpenSpec.ofChange Rows.groupMinsSpec) = true := by kernel_rfl
theorem groupMins_c2 : Tryz.prog.mainIs = some ((true, "48a24817cee2ea25fcacd8d4c2f04619d293d9d164808228d1d6e1fc644b1e63").1, (true, "48a24817cee2ea25fcacd8d4c2f04619d293d9d164808228d1d6e1fc644b1e63").2.toList) := by kernel_rfl
theorem groupMins_c3 : Tryz.prog.funcNamed "florin/florinlaw18.GroupMins" = some 3 := by kernel_rfl
theorem groupMins_c4 : true = Tryz.prog.looks [] := by kernel_rfl
theorem groupMins_c6 : false = Rows.groupMinsRow.goesBy Tryz.prog := by kernel_rfl
theorem groupMins_card : Rows.GroupMinsCardSaid :=
  Claim7.holds_tied_plain_at .later [] [.data, .data, .data, .data, .sentinel, .sentinel, .pinned] true (true, "48a24817cee2ea25fcacd8d4c2f04619d293d9d164808228d1d6e1fc644b1e63") true
    groupMins_holds (fun _ h => by cases h) groupMins_c1 (fun _ h => by cases h) groupMins_row_tie rfl ⟨rfl, rfl⟩ groupMins_c2 rfl
    (fun f fn hf hfn => by
      obtain rfl : f = 3 := Option.some.inj (groupMins_c3.symm.trans hf) |>.symm
      obtain rfl : fn = Tryz.f3 := (Option.some.inj (Tryz.func3.symm.trans hfn)).symm
      exact ⟨groupMins_c4, fun j t ht => by
        rw [Tryz.params3] at ht
        have h3 : t = 3 ∨ t = 22 := by
          rcases j with _ | _ | _ | _ | j
          · exact .inl (by simpa using ht.symm)
          · exact .inr (by simpa using ht.symm)
          · exact .inl (by simpa using ht.symm)
          · exact .inl (by simpa using ht.symm)
          · simp at ht
        rcases h3 with rfl | rfl
        · exact (show Tryz.prog.wantsStandIn 3 = false by kernel_rfl)
        · exact (show Tryz.prog.wantsStandIn 22 = false by kernel_rfl)⟩)
    groupMins_c6
#print axioms groupMins_card
end Go.Proofs.YtpbjjhpihhnomaaGreatDoor
