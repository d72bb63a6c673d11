/- The row of LocaleCats. -/
import Derived.Test.YtijdnjngfkohfaaGreatDoorJ39
import Derived.Test.YtijdnjngfkohfaaGreatDoorJ42
import Derived.Test.YtijdnjngfkohfaaGreatDoorJ44
import Derived.Test.YtijdnjngfkohfaaGreatDoorJ40
import Derived.Test.YtijdnjngfkohfaaGreatDoorJ35
import Derived.Test.YtijdnjngfkohfaaGreatDoorJ37
import Derived.Test.YtijdnjngfkohfaaGreatDoorRows
import Derived.Test.YtijdnjngfkohfaaGreatDoorJ01
import Derived.Test.YtijdnjngfkohfaaGreatDoorJ18
import Derived.Test.YtijdnjngfkohfaaGreatDoorAbsC
import Derived.Lib.LaidU8
import Derived.Lib.LaidIn
import Derived.Shelf.Vars
import Derived.ProofKit
import Derived.ChangeOld
import Derived.Carry
import Derived.Lay
set_option linter.unusedVariables false
set_option linter.unusedSimpArgs false
set_option maxRecDepth 100000
set_option maxHeartbeats 4000000

namespace Go.Proofs.YtijdnjngfkohfaaGreatDoor
open Go Go.Abs
attribute [local irreducible] DrawW CallW RetW AC Does CmpW
variable {m : Int}
theorem own_does {G : Globs} (t : TTab) (hb : t.below = true) (hl : (encF t).length ≤ 65536) : Does Tryz.prog G 64 [.agg (tabC t)] [] fun ae _ => ae = .ret (.agg (tabC (decF (encF t)).1)) := by
  have dE := Encode_does (G := G) t hb hl
  have dD := TDecode_does (G := G) (encF t) (by omega)
  generalize (decF (encF t)).1 = o at *
  refine Does.body tab Tryz.func64 rfl rfl ?_
  refine gos ?_
  intro v0
  refine gos ?_
  intro v1
  refine gos ?_
  refine CallW.pure dE rfl rfl ?_
  refine gos ?_
  refine CallW.pure dD rfl rfl ?_
  refine gos ?_
  refine RetW.plain (by simp) ?_
  rfl
theorem LNew_does (t : TTab) (hf : t.fits) (hbel : checkF t = 0 → t.below = true) (henc : checkF t = 0 → (encF t).length ≤ 65536) : Does Tryz.prog (GL m) 26 [.agg (tabC t)] [] fun ae _ => ae = .ret (newF t) :=
  New_does' (fun t h1 h2 => own_does t h1 h2) t hf hbel henc
theorem Load_does (s : List UInt8) (hs : s.length < 4294967296) (hf : (decF s).2 = 0 → (decF s).1.fits ∧ (checkF (decF s).1 = 0 → (decF s).1.below = true ∧ (encF (decF s).1).length ≤ 65536)) :
    Does Tryz.prog (GL m) 27 [.str s] [] fun ae _ => ae = .ret (loadF s) := by
  have dD := TDecode_does (G := GL m) s hs
  refine Does.bodyA tab Tryz.func27 rfl rfl ?_
  refine AC.step tab ?_
  refine gos ?_
  refine AC.step tab ?_
  refine gos ?_
  refine CallW.pure dD rfl rfl ?_
  refine gos ?_
  intro v1
  refine gos ?_
  refine AC.step tab ?_
  refine gos ?_
  unfold loadF
  by_cases he : (decF s).2 = 0
  case neg =>
    rw [if_neg he]
    refine CmpW.t (by simpa using he) ?_
    refine gos ?_
    refine RetW.plain (by simp) ?_
    rfl
  rw [if_pos he]
  obtain ⟨h1, h2⟩ := hf he
  have dN := LNew_does (m := m) (decF s).1 h1 (fun h => (h2 h).1) (fun h => (h2 h).2)
  refine CmpW.f (by simpa using he) ?_
  clear dD h1 h2 hf
  generalize (decF s).1 = t at *
  refine gos ?_
  refine AC.go tab ?_
  refine gos ?_
  unfold newF at *
  by_cases hc : checkF t = 0
  · simp only [if_pos hc] at *
    refine CallW.pure dN rfl rfl ?_
    refine gos ?_
    refine RetW.plain (by simp) ?_
    rfl
  · simp only [if_neg hc] at *
    refine CallW.pure dN rfl rfl ?_
    refine gos ?_
    refine RetW.plain (by simp) ?_
    rfl
end Go.Proofs.YtijdnjngfkohfaaGreatDoor

namespace Go.Proofs.YtijdnjngfkohfaaGreatDoor
open Go Go.Abs
attribute [local irreducible] DrawW CallW RetW AC Does CmpW
variable {m : Int}
def locF (o t : TTab) : List AV := locX o (patP t.decimal) (patP t.per) (patP t.money) (patP t.account) (rest1 t (.fmap (unitsM t.units)) (.fmap (namesM t.curs)) (.fptr (bcC encB (brzB 2 t.munit))))
theorem locF_eq (o t : TTab) : locC o t = locF o t := by
  unfold locC locF locX rest1
  simp only [List.append_assoc]
  rfl
theorem newB (n : Int) : Does Tryz.prog (GL m) 26 [.agg (tabC (baseF n))] [] fun ae _ => ae = .ret (.tuple [.fptr (locF (decF (encF (baseF n))).1 (baseF n)), .int .i64 0]) := by
  have h := LNew_does (m := m) (baseF n) (fitsB n) (fun _ => belB n) (fun _ => encB_le n)
  rw [newF, if_pos (checkB n), locF_eq] at h
  exact h
def usd : TCur := (base0.curs.find? fun c => decide (c.code = [85, 83, 68])).getD ⟨[], [], [], [], 0, 0, 0, 0⟩
def lookC (c : TCur) : Bool := decide (c.code = [85, 83, 68])
theorem usd_in : (base0.curs.any fun c => decide (c.code = [85, 83, 68]) && decide (c.names ≠ [])) = true := by kernel_rfl
theorem usd_few : getC (strB usd.names) 3 = [100, 111, 108, 108, 97, 114, 115] := by kernel_rfl
theorem usd_one : getC (strB usd.names) 1 = [100, 111, 108, 108, 97, 114] := by kernel_rfl
theorem usd_ok : usd ∈ base0.curs ∧ usd.code = [85, 83, 68] ∧ usd.names ≠ [] := by
  obtain ⟨c, hc, h⟩ := List.any_eq_true.1 usd_in
  rw [Bool.and_eq_true] at h
  have h1 := of_decide_eq_true h.1
  cases hf : base0.curs.find? fun c => decide (c.code = [85, 83, 68]) with
  | none => exact absurd h.1 (by simpa using List.find?_eq_none.1 hf c hc)
  | some d =>
    have e : usd = d := by unfold usd; rw [hf]; rfl
    have k1 := List.mem_of_find?_eq_some hf
    have k2 := List.find?_some hf
    have k3 : d.code = [85, 83, 68] := by simpa using k2
    have : d = c := ris_inj (fine_curs checkB_0).1 d k1 c hc (by rw [k3, h1])
    rw [e]
    refine ⟨k1, k3, ?_⟩
    rw [this]
    exact of_decide_eq_true h.2
theorem head17_does : Does Tryz.prog (GL m) 12 [] [] fun ae _ => ae = .ret (.bool true) := by
  have dN := newB (m := m) 0
  have dB := Base_does (G := GL m) 0
  obtain ⟨u1, u2, u3⟩ := usd_ok
  have hl : lookM (namesM base0.curs) [85, 83, 68] = some (curV usd) := by
    have := name_some checkB_0 u1 u3
    rw [u2] at this
    exact this
  have d1 := Name_some (G := GL m) (o := (decF (encF base0)).1) (p1 := patP base0.decimal) (p2 := patP base0.per) (p3 := patP base0.money) (p4 := patP base0.account) (t := base0) (namesM_ok base0.curs) (u := .fmap (unitsM base0.units)) (mu := .fptr (bcC encB (brzB 2 base0.munit))) hl 3
  have d2 := Name_some (G := GL m) (o := (decF (encF base0)).1) (p1 := patP base0.decimal) (p2 := patP base0.per) (p3 := patP base0.money) (p4 := patP base0.account) (t := base0) (namesM_ok base0.curs) (u := .fmap (unitsM base0.units)) (mu := .fptr (bcC encB (brzB 2 base0.munit))) hl 1
  rw [usd_few] at d1
  rw [usd_one] at d2
  have e0 : baseF 0 = base0 := rfl
  rw [e0] at dN dB
  unfold locF at dN
  generalize locX (decF (encF base0)).1 (patP base0.decimal) (patP base0.per) (patP base0.money) (patP base0.account) (rest1 base0 (.fmap (unitsM base0.units)) (.fmap (namesM base0.curs)) (.fptr (bcC encB (brzB 2 base0.munit)))) = L at *
  generalize base0 = t at *
  refine Does.body tab Tryz.func12 rfl rfl ?_
  refine gos ?_
  refine CallW.pure dB rfl rfl ?_
  refine gos ?_
  refine CallW.pure dN rfl rfl ?_
  refine gos ?_
  refine CallW.pure d1 rfl rfl ?_
  refine gos ?_
  refine CallW.pure d2 rfl rfl ?_
  refine gos ?_
  refine RetW.plain (by simp) ?_
  rfl
end Go.Proofs.YtijdnjngfkohfaaGreatDoor

namespace Go.Proofs.YtijdnjngfkohfaaGreatDoor
open Go Go.Abs Go.Opn
theorem str_cells {P : Program} {W : World} {base : Nat} {r : Reach} {t : TypeId} {v : Value} (ht : P.underlying t = some .string) (h : Value.okWide P W r base t v) : v.cells.toList = [v] := by
  obtain ⟨s, rfl⟩ := Go.WideShapes.okWide_string ht h; rfl
theorem slice_cells {P : Program} {W : World} {base : Nat} {r : Reach} {t e : TypeId} {v : Value} (ht : P.underlying t = some (.slice e)) (h : Value.okWide P W r base t v) : v.cells.toList = [v] := by
  obtain ⟨a, l, c, rfl⟩ := Go.WideShapes.okWide_slice ht h; rfl
theorem oPut : Opnd Tryz.prog 30 2 encPu (fun _ => True) := by
  have h := Opnd.struct (n := 1 + (1 + 0)) Tryz.underlying30 (by kernel_rfl) (OpndFs.cons oInt rfl (OpndFs.cons oInt rfl (OpndFs.nil _)))
  exact h.map (fun x => (⟨x.1, x.2.1⟩ : TPut)) (fun _ => rfl) (fun x h => trivial)
theorem oPuts : Opnd Tryz.prog 22 1 (fun l : List TPut => [.fsl (l.map encPu)]) (fun l => l.length ≤ 140737488355328) :=
  (Opnd.slice Tryz.underlying22 (by kernel_rfl) (by omega) (of_decide_eq_true (by kernel_rfl)) oPut).map id (fun _ => rfl) (fun x h => reach_le h.1)
theorem LocaleCats_ok (m : Int) (l : List TPut) (ask : Int) (hl : l.length ≤ 140737488355328) : Does Tryz.prog (GL m) 3 [.fsl (l.map encPu), .int .i64 ask] [] fun ae _ => ae = .ret (.bool true) := LocaleCats_does head17_does l hl ask
end Go.Proofs.YtijdnjngfkohfaaGreatDoor

namespace Go.Proofs.YtijdnjngfkohfaaGreatDoor
open Go Go.Abs Go.Shelf Go.Opn
open Go.ChangeShapes Go.WideShapes Go.ChangeAt Go.RowKit
theorem localeCats_own : ownKnob Tryz.prog.godebug = none := by kernel_rfl
theorem localeCats_lout : laidOutB Tryz.prog = true := by kernel_rfl
noncomputable def localeCats_world (os : Os) : World := World.laidAll Tryz.prog os Rows.localeCatsRow.laid
theorem localeCats_laid (os : Os) (args : Array Value) : laidMet Tryz.prog Rows.localeCatsRow.laid ((localeCats_world os).forCall (fun _ _ => 0) ⟨#[], args, []⟩).memory :=
  laidMet_laidAll args (by kernel_rfl) (by kernel_rfl)
set_option maxRecDepth 100000 in
theorem localeCats_lifted (os : Os) (started : os.Started) (H : Type) (enc : TypeId × Value → H) :
    ReturnsInHanded {} Tryz.checked os 3 .any (fun w args => (Rows.localeCatsSpec.pre enc Tryz.prog Tryz.f3 Rows.localeCatsRow.domain false w args ∧ laidMetH Tryz.prog Rows.localeCatsRow.laid w) ∧ sizedMet enc Tryz.prog Tryz.f3 (OpenSpec.ofChange Rows.localeCatsSpec) false w args)
      (Rows.localeCatsSpec.post enc Tryz.prog Tryz.f3 false true false false) := by
  refine returns_both (C := Tryz.checked) (X := fun w _ => laidMetH Tryz.prog Rows.localeCatsRow.laid w) (fun _ _ _ hh h => h.of_heap hh) localeCats_own started (by kernel_rfl) Tryz.func3
    (ChangeSpec.witness_at (enc := enc) (C := Tryz.checked) (os := os) (X := fun w _ => laidMetH Tryz.prog Rows.localeCatsRow.laid w) false (localeCats_world os) #[.slice none 0 0, .int .i64 0] 8 (World.laidAll_os _ _ _) (by kernel_rfl) (by kernel_rfl) (by kernel_rfl) (by kernel_rfl) (by kernel_rfl) (localeCats_laid os _)) ?_
  intro W base args ds gs before hval0 hW _ hsz0 hL hsh _
  have hsz : (DataW.weightsEach Tryz.prog (Tryz.f3.params.toList ++ Rows.localeCatsSpec.plain.varTypes Tryz.prog) (ds ++ gs)).all (· ≤ reachBytes) = true := hsz0
  have hval : ∀ (j : Nat) t v, Tryz.f3.params[j]? = some t → args[j]? = some v → Value.okWide Tryz.prog W .any base t v := hval0
  have hW1 := hW
  obtain ⟨p, q, hA0, hV, rfl, hfz, hnd⟩ := hW
  have hA : DataW.TrodAll enc Tryz.prog W 0 (fun _ => true) true Tryz.f3.params.toList args.toList ds p := hA0
  rw [Tryz.params3] at hA hval hsz
  obtain ⟨v0, vs0, d0, e0, p0, q0, hargs, rfl, rfl, h0, r0⟩ := trodAll_cons hA
  obtain ⟨v1, vs1, d1, e1, p1, q1, rfl, rfl, rfl, h1, r1⟩ := trodAll_cons r0
  obtain ⟨rfl, rfl, rfl⟩ := trodAll_nil r1
  obtain rfl : args = #[v0, v1] := by cases args; simp_all
  obtain ⟨rfl, rfl⟩ := trodVars_none hV
  have l0 : ∀ x ∈ p0, x.block < W.heap.size := fun x hx => by simpa using hW1.lt x (by simp [hx])
  have z0 : Sized Tryz.prog 22 d0 := Sized.of_each hsz (i := 0) rfl rfl
  obtain ⟨x0, w0, k0⟩ := oPuts.one (g := _) (slice_cells Tryz.underlying22 (hval 0 22 v0 rfl rfl)) h0 z0
  obtain ⟨x1, rfl, rfl, rfl, w1⟩ := open_int Tryz.underlying3 (hval 1 3 v1 rfl rfl) h1
  clear hA0 hval0 hsz0 hsz
  have hL1 : laidMet Tryz.prog Rows.localeCatsRow.laid W := hL
  have hU : Lib.Utf8Tabs 0 1 W :=
    utf8Tabs_of_reads (ρ := Tryz.lays197_ren) { Tryz.lays197 with } ⟨by kernel_rfl, by kernel_rfl, by kernel_rfl, by kernel_rfl, by kernel_rfl, by kernel_rfl, by kernel_rfl⟩
      (Lib.laidMet.reads hL1 (.tail _ (.tail _ (.tail _ (.tail _ (.tail _ (.tail _ (.head _)))))))) (Lib.laidMet.reads hL1 (.tail _ (.tail _ (.tail _ (.head _)))))
  obtain ⟨m, hm⟩ : ∃ m, W.cell? ⟨2, 0, none⟩ = some (.int .i64 m) := cell_of_shapedOpen_int (P := Tryz.prog) (t := 3) (zero := #[.int .i64 0]) hsh (of_decide_eq_true (by kernel_rfl)) (by kernel_rfl) rfl (by kernel_rfl) (by kernel_rfl) Tryz.underlying3
  refine (Does.law (LocaleCats_ok m x0 x1 w0) Tryz.func3 rfl rfl (top_GL hU hm) (cargs := #[v0, .int .i64 x1]) (by simp only [RepL]; exact ⟨_, _, rfl, k0, _, _, rfl, (by simp only [RepV, RepF]), rfl⟩)).mono fun e W2 ⟨he, bel⟩ => ?_
  subst he
  exact ⟨_, rfl, _, _, _, [], _, [], hW1, trodAll_mk1 (shut_bool Tryz.underlying4 _), ⟨_, _, (Below.trod localeCats_lout (by kernel_rfl) (of_decide_eq_true (by kernel_rfl)) h0 bel l0), ⟨_, _, (shut_int Tryz.underlying3 w1), trodAll_mk0, rfl⟩, rfl⟩, rfl, bel.frame _, fun h => by cases h⟩
theorem localeCats_holds : Rows.LocaleCatsSaid :=
  OpenClaim.holds_of_wide 3 Tryz.f3 rfl rfl rfl rfl rfl rfl rfl ⟨rfl, rfl, rfl, rfl, rfl⟩ rfl rfl rfl rfl rfl (by kernel_rfl) Tryz.func3 localeCats_joined
    (of_decide_eq_true (by kernel_rfl)) (by unfold Func.isWrapper; rw [if_neg (of_decide_eq_false (by kernel_rfl))]; exact ⟨rfl, rfl⟩)
    (fun os started H enc _ => localeCats_lifted os started H enc)
end Go.Proofs.YtijdnjngfkohfaaGreatDoor
