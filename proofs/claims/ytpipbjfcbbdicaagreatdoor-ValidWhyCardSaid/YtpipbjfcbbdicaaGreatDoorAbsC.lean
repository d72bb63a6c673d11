/- A clean state beside the machine's, and what each operation does to it: a part of the means by which this claim is proved. -/
import Derived.Test.YtpipbjfcbbdicaaGreatDoorAbsB
import Derived.Shelf.Strings.BuilderK
import Derived.HandedShaped
import Derived.ChangeArms
import Derived.OpenShut
import Derived.Carry
import Derived.WideShapes
set_option linter.unusedVariables false
set_option linter.unusedSimpArgs false
/- The library's contracts (the shelf's) as contracts of this layer. -/
namespace Go.Abs
open Go

section
variable {P : Program} {G : Globs}

theorem grown_below {w w' : World} (h : RowKit.Below w.heap.size w w') : w.grownBy w' none := ⟨h.os, h.tape, h.output, h.size, fun k hk _ => h.block k hk⟩

/-- What leaves all that was there as it was, and answers one value of which nothing lies in memory. -/
theorem Does.of_calls {f : FuncId} {fn : Func} {c : Code} {args : List AV} {r : AV} {v : Value} (hf : P.funcs[f]? = some fn) (hb : fn.body = some c) (hn : (fn.name == "runtime.NumGoroutine") = false)
    (hr : ∀ C, RepF C r v) (h : ∀ C cargs, Good G C → RepL C args cargs → Calls P f cargs.toArray C.w fun e w' => e = .returned v ∧ RowKit.Below C.w.heap.size C.w w') : Does P G f args [] fun ae _ => ae = .ret r := by
  intro C cargs hg hs hrep
  have hn' : ¬ fn.name = "runtime.NumGoroutine" := by simpa using hn
  have hcall : (callFunc f cargs.toArray).run P C.w = .ok (.enter f cargs.toArray) C.w := by simp [callFunc, hf, hn', hb]
  unfold CallsF
  rw [hcall]
  refine (h C cargs hg hrep).mono ?_
  rintro e w' ⟨rfl, hbl⟩
  have hgr := grown_below hbl
  exact ⟨.ret r, C.inW w', rfl, good_grown hg hgr, ext_grown hg hgr, by simp [Ctx.inW, hs], rfl, RepF.repV _ _ (hr _)⟩

theorem below_same (w : World) : RowKit.Below w.heap.size w w := RowKit.Below.refl _ _

theorem rep_str1 {C : Ctx} {s : List UInt8} {cargs : List Value} (h : RepL C [.str s] cargs) : cargs = [.string ⟨⟨s⟩⟩] := by
  simp only [RepL, RepV, RepF] at h
  obtain ⟨u, r, rfl, rfl, rfl⟩ := h; rfl
theorem rep_str2 {C : Ctx} {s t : List UInt8} {cargs : List Value} (h : RepL C [.str s, .str t] cargs) : cargs = [.string ⟨⟨s⟩⟩, .string ⟨⟨t⟩⟩] := by
  simp only [RepL, RepV, RepF] at h
  obtain ⟨u, r, rfl, rfl, u', r', rfl, rfl, rfl⟩ := h; rfl
theorem rep_str3 {C : Ctx} {s t q : List UInt8} {cargs : List Value} (h : RepL C [.str s, .str t, .str q] cargs) : cargs = [.string ⟨⟨s⟩⟩, .string ⟨⟨t⟩⟩, .string ⟨⟨q⟩⟩] := by
  simp only [RepL, RepV, RepF] at h
  obtain ⟨u, r, rfl, rfl, u', r', rfl, rfl, u'', r'', rfl, rfl, rfl⟩ := h; rfl
theorem rep_strint {C : Ctx} {s : List UInt8} {k : IntKind} {n : Int} {cargs : List Value} (h : RepL C [.str s, .int k n] cargs) : cargs = [.string ⟨⟨s⟩⟩, .int k n] := by
  simp only [RepL, RepV, RepF] at h
  obtain ⟨u, r, rfl, rfl, u', r', rfl, rfl, rfl⟩ := h; rfl

/-- A package-level cell that holds a number. -/
theorem glob_int {C : Ctx} (hg : Good G C) {g : Nat} {k : IntKind} {m : Int} (h : (g, [AV.int k m]) ∈ G) : C.w.cell? ⟨g, 0, none⟩ = some (.int k m) := by
  obtain ⟨us, h1, h2, h3⟩ := hg.glob _ h
  simp only [RepFL, RepF] at h3
  obtain ⟨u, r, rfl, rfl, _⟩ := h3
  exact h2 0 _ rfl

end
end Go.Abs
/- strings.Builder, as two objects: the struct, and the row of bytes. -/
namespace Go.Abs
open Go Go.Shelf Go.RowKit Go.Proofs
set_option linter.unusedVariables false

section
variable {G : Globs} {C : Ctx}

/-- An object is given up, and its block turned. -/
theorem good_gone {i : Nat} {p : AObj} {w : World} (hg : Good G C) (hp : C.live i p) (hgrow : C.w.grownBy w (C.io i).ownBlock) : Good G ((C.free i).inW w) ∧ Ext C ((C.free i).inW w) := by
  have hne : ∀ b, (b < C.w.heap.size) → (C.io i).ownBlock ≠ some b → w.heap[b]? = C.w.heap[b]? := fun b h1 h2 => hgrow.block b h1 (fun e => h2 e.symm)
  have he : Ext C ((C.free i).inW w) := ⟨hgrow.os, hgrow.tape, hgrow.output, hgrow.size, Nat.le_refl _, rfl, fun b hb => hne b (hg.out b hb) (fun e => hg.own i p hp b e hb), fun j o' hl _ => ⟨o', (free_live hl).2, rfl, rfl, rfl⟩,
    fun b hb => ⟨⟨Nat.lt_of_lt_of_le hb.1 hgrow.size, fun j o' hl => hb.2.1 j o' (free_live hl).2, hb.2.2⟩, hne b hb.1 (hb.2.1 i p hp)⟩⟩
  refine ⟨⟨fun j x hl => ?_, fun j k x y hx hy hij g h1 h2 => hg.apart j k x y (free_live hx).2 (free_live hy).2 hij g h1 h2, fun j x hx g h hF => hg.own j x (free_live hx).2 g h hF, fun b hb => Nat.lt_of_lt_of_le (hg.out b hb) hgrow.size, fun q hq => ?_⟩, he⟩
  · obtain ⟨hne', hl'⟩ := free_live hl
    obtain ⟨a1, a2, a3, ys, a4, a5, a6⟩ := hg.obj j x hl'
    refine ⟨a1, a2, a3, ys, a4.kept hgrow ?_, RepLL.ext he _ _ a5, a6⟩
    show (C.io j).ownBlock = none ∨ _
    cases h : (C.io j).ownBlock with
    | none => exact .inl rfl
    | some g => exact .inr (fun e => hg.apart j i x p hl' hp hne' g h e.symm)
  · obtain ⟨us, b1, b2, b3⟩ := hg.glob q hq
    exact ⟨us, (he.fz _ b1).1, reads_ext he.fext b1 b2, RepFL.ext he.fext _ _ b3⟩

theorem grownBy_freeze (w : World) (g n : Nat) : w.grownBy (w.drew.freeze ⟨g, 0, none⟩ n) (some g) := by
  unfold World.freeze
  split
  · exact ⟨rfl, rfl, rfl, Nat.le_refl _, fun _ _ _ => rfl⟩
  · refine ⟨rfl, rfl, rfl, by simp, fun k hk hne => ?_⟩
    simp only [Array.getElem?_modify]
    rw [if_neg (fun e => hne (by rw [e]))]
    rfl
end

section
variable {P : Program} {ρ : Ren}

variable {G : Globs}

/-- The struct: where it says that it lies, and its row. -/
def bldO (T ver : Nat) (addr : AV) (buf : AV) : AObj := ⟨ver, T, 2, [[addr, buf]]⟩
/-- Where a builder says that it lies: it says nothing yet, or the truth. -/
inductive Self (i ver : Nat) : AV → Prop where
  | nil : Self i ver .nilp
  | at_ : Self i ver (.ptr i ver 0 0)

theorem bld_at {C : Ctx} {T ver : Nat} {addr buf : AV} (hg : Good G C) (hl : C.live 0 (bldO T ver addr buf)) :
    ∃ b cap cur x y, C.io 0 = .slice (some ⟨b, 0, none⟩) 1 cap ∧ C.w.heap[b]? = some (.cells cur T (0, 0)) ∧ cur.size = cap * 2 ∧ 1 ≤ cap ∧ cur[0]? = some x ∧ cur[1]? = some y ∧ RepV C addr x ∧ RepV C buf y := by
  obtain ⟨_, _, _, xs, hown, hrep, _⟩ := hg.obj 0 _ hl
  have hrep : RepLL C [[addr, buf]] xs := hrep
  simp only [RepLL, RepL] at hrep
  obtain ⟨p, r, rfl, ⟨x, r1, rfl, hx, y, r2, rfl, hy, rfl⟩, rfl⟩ := hrep
  rcases hown.2 with ⟨_, h2⟩ | ⟨g, cap, cur, h1, _, hgc, hnc, hcm, hcs, htake⟩
  · exact absurd h2 (by simp [bldO])
  · have hnc : 1 ≤ cap := hnc
    have hcs : cur.size = cap * 2 := hcs
    have htake : cur.toList.take 2 = [x, y] := by simpa [bldO] using htake
    refine ⟨g, cap, cur, x, y, h1, hgc, hcs, hnc, ?_, ?_, hx, hy⟩
    · have := congrArg (·[0]?) htake; simpa using this
    · have := congrArg (·[1]?) htake; simpa using this

/-! ### String -/

theorem grownBy_drew (w : World) (r : Option Nat) : w.grownBy w.drew r := ⟨rfl, rfl, rfl, Nat.le_refl _, fun _ _ _ => rfl⟩
theorem grownBy_drew_alloc (w : World) (o : Obj) (r : Option Nat) : w.grownBy (w.drew.alloc o) r := ⟨rfl, rfl, rfl, by simp, fun k hk _ => RowKit.Below.heap_alloc w.drew _ k hk⟩

set_option maxHeartbeats 2000000 in
set_option maxRecDepth 100000 in
theorem String_some (L : Lays.n169 P ρ) (X : Builder.Extra P ρ) (b g cap : Nat) (cur : Array Value) (l : List UInt8) (w : World) (h0 : l ≠ []) (c1 : w.drew.cell? ⟨b, 1, none⟩ = some (.slice (some ⟨g, 0, none⟩) l.length cap)) (hg : w.heap[g]? = some (.cells cur (ρ.t 5) (0, 0)))
    (hnc : l.length ≤ cap) (hcm : cap ≤ maxLen) (hcs : cur.size = cap) (hl : ∀ (j : Nat) (x : UInt8), l[j]? = some x → w.cell? ⟨g, j, none⟩ = some (.int .u8 x.toNat)) :
    Calls P (ρ.f 169) #[.pointer (some ⟨b, 0, none⟩)] w fun e w' => e = .returned (.string ⟨l.toArray⟩) ∧ w' = w.drew.freeze ⟨g, 0, none⟩ l.length := by
  have hl0 : l.length ≠ 0 := by simpa using h0
  have hSD : (Builtin.unsafeSliceData_ #[(ρ.t 37)] (ρ.t 127) #[.slice (some ⟨g, 0, none⟩) l.length cap]).run P w.drew = .ok (.pointer (some ⟨g, 0, none⟩)) w.drew :=
    Lib.run_unsafeSliceData_row _ _ _ _ _ _ (by omega)
  have hUS : (Builtin.unsafeString_ #[(ρ.t 127), (ρ.t 3)] (ρ.t 9) #[.pointer (some ⟨g, 0, none⟩), .int .i64 l.length]).run P w.drew = .ok (.string ⟨l.toArray⟩) (w.drew.freeze ⟨g, 0, none⟩ l.length) := by
    refine Lib.run_unsafeString_row w.drew (ρ.t 127) (ρ.t 3) (ρ.t 9) (ρ.t 5) L.t127 X.cellsByte g cur.size (by have hg' : w.drew.heap[g]? = some (.cells cur (ρ.t 5) (0, 0)) := hg; simp [World.shape?, hg']) l h0 (by omega) (by unfold maxLen at hcm; omega) ?_
    intro j x hx
    rw [Addr.add_lit, Nat.zero_add]
    exact hl j x hx
  have mixed := L.mixed
  have t72 := L.t72; have a72 := L.a72; have z72 := L.z72; have v72 := L.v72; have u72 := run_underlying L.t72
  have t70 := L.t70; have a70 := L.a70; have z70 := L.z70; have v70 := L.v70; have u70 := run_underlying L.t70
  have t37 := L.t37; have a37 := L.a37; have z37 := L.z37; have v37 := L.v37; have u37 := run_underlying L.t37
  have t127 := L.t127; have a127 := L.a127; have z127 := L.z127; have v127 := L.v127; have u127 := run_underlying L.t127
  have t3 := L.t3; have a3 := L.a3; have z3 := L.z3; have v3 := L.v3; have u3 := run_underlying L.t3
  have t9 := L.t9; have a9 := L.a9; have z9 := L.z9; have v9 := L.v9; have u9 := run_underlying L.t9
  have t5 := X.t5; have a5 := X.a5; have z5 := X.z5; have v5 := X.v5; have u5 := run_underlying X.t5
  go_enter L.f169, Body.n169_ntmps ρ
  go_wp2
  go_region_o
  all_goals (go_wp2; go_ret; exact ⟨rfl, rfl⟩)

set_option maxHeartbeats 2000000 in
set_option maxRecDepth 100000 in
theorem String_nil (L : Lays.n169 P ρ) (X : Builder.Extra P ρ) (b : Nat) (w : World) (c1 : w.drew.cell? ⟨b, 1, none⟩ = some (.slice none 0 0)) :
    Calls P (ρ.f 169) #[.pointer (some ⟨b, 0, none⟩)] w fun e w' => e = .returned (.string ⟨#[]⟩) ∧ w' = w.drew := by
  have hUS := Any.unsafeString_none L X
  have hSD : (Builtin.unsafeSliceData_ #[(ρ.t 37)] (ρ.t 127) #[.slice none 0 0]).run P w.drew = .ok (.pointer none) w.drew := rfl
  have mixed := L.mixed
  have t72 := L.t72; have a72 := L.a72; have z72 := L.z72; have v72 := L.v72; have u72 := run_underlying L.t72
  have t70 := L.t70; have a70 := L.a70; have z70 := L.z70; have v70 := L.v70; have u70 := run_underlying L.t70
  have t37 := L.t37; have a37 := L.a37; have z37 := L.z37; have v37 := L.v37; have u37 := run_underlying L.t37
  have t127 := L.t127; have a127 := L.a127; have z127 := L.z127; have v127 := L.v127; have u127 := run_underlying L.t127
  have t3 := L.t3; have a3 := L.a3; have z3 := L.z3; have v3 := L.v3; have u3 := run_underlying L.t3
  have t9 := L.t9; have a9 := L.a9; have z9 := L.z9; have v9 := L.v9; have u9 := run_underlying L.t9
  have t5 := X.t5; have a5 := X.a5; have z5 := X.z5; have v5 := X.v5; have u5 := run_underlying X.t5
  go_enter L.f169, Body.n169_ntmps ρ
  go_wp2
  go_region_o
  all_goals (go_wp2; go_ret; exact ⟨rfl, rfl⟩)

set_option maxHeartbeats 2000000 in
set_option maxRecDepth 100000 in
theorem String_noroom (L : Lays.n169 P ρ) (X : Builder.Extra P ρ) (b g : Nat) (cur : Array Value) (w : World) (hlt : b < w.heap.size) (c1 : w.drew.cell? ⟨b, 1, none⟩ = some (.slice (some ⟨g, 0, none⟩) 0 0)) (hg : w.heap[g]? = some (.cells cur (ρ.t 5) (0, 0))) :
    Calls P (ρ.f 169) #[.pointer (some ⟨b, 0, none⟩)] w fun e w' => e = .returned (.string ⟨#[]⟩) ∧ w' = w.drew.alloc (.view ⟨g, 0, none⟩ (ρ.t 5)) := by
  have hUS := Any.unsafeString_none L X
  have hSD : (Builtin.unsafeSliceData_ #[(ρ.t 37)] (ρ.t 127) #[.slice (some ⟨g, 0, none⟩) 0 0]).run P w.drew = .ok (.pointer (some ⟨w.drew.heap.size, 0, none⟩)) (w.drew.alloc (.view ⟨g, 0, none⟩ (ρ.t 5))) :=
    Lib.run_unsafeSliceData_zero w.drew _ _ (ρ.t 5) L.t127 ⟨g, 0, none⟩ 0 ((ρ.t 5), cur.size) (by have hg' : w.drew.heap[g]? = some (.cells cur (ρ.t 5) (0, 0)) := hg; simp [World.shape?, hg'])
  have c2 : (w.drew.alloc (.view ⟨g, 0, none⟩ (ρ.t 5))).cell? ⟨b, 1, none⟩ = some (.slice (some ⟨g, 0, none⟩) 0 0) := by
    rw [← c1]
    exact World.cell?_of_block (Lib.alloc_old w.drew _ b hlt)
  have c3 : (w.alloc (.view ⟨g, 0, none⟩ (ρ.t 5))).drew.cell? ⟨b, 1, none⟩ = some (.slice (some ⟨g, 0, none⟩) 0 0) := c2
  have c0 : w.cell? ⟨b, 1, none⟩ = some (.slice (some ⟨g, 0, none⟩) 0 0) := c1
  have mixed := L.mixed
  have t72 := L.t72; have a72 := L.a72; have z72 := L.z72; have v72 := L.v72; have u72 := run_underlying L.t72
  have t70 := L.t70; have a70 := L.a70; have z70 := L.z70; have v70 := L.v70; have u70 := run_underlying L.t70
  have t37 := L.t37; have a37 := L.a37; have z37 := L.z37; have v37 := L.v37; have u37 := run_underlying L.t37
  have t127 := L.t127; have a127 := L.a127; have z127 := L.z127; have v127 := L.v127; have u127 := run_underlying L.t127
  have t3 := L.t3; have a3 := L.a3; have z3 := L.z3; have v3 := L.v3; have u3 := run_underlying L.t3
  have t9 := L.t9; have a9 := L.a9; have z9 := L.z9; have v9 := L.v9; have u9 := run_underlying L.t9
  have t5 := X.t5; have a5 := X.a5; have z5 := X.z5; have v5 := X.v5; have u5 := run_underlying X.t5
  go_enter L.f169, Body.n169_ntmps ρ
  go_wp2
  go_region_o
  all_goals (go_wp2; go_ret; exact ⟨rfl, rfl⟩)

set_option maxHeartbeats 2000000 in
set_option maxRecDepth 100000 in
theorem String_room (L : Lays.n169 P ρ) (X : Builder.Extra P ρ) (b g cap : Nat) (w : World) (hc0 : cap ≠ 0) (c1 : w.drew.cell? ⟨b, 1, none⟩ = some (.slice (some ⟨g, 0, none⟩) 0 cap)) :
    Calls P (ρ.f 169) #[.pointer (some ⟨b, 0, none⟩)] w fun e w' => e = .returned (.string ⟨#[]⟩) ∧ w' = w.drew := by
  have hUS := Any.unsafeString_none L X
  have hSD : (Builtin.unsafeSliceData_ #[(ρ.t 37)] (ρ.t 127) #[.slice (some ⟨g, 0, none⟩) 0 cap]).run P w.drew = .ok (.pointer (some ⟨g, 0, none⟩)) w.drew :=
    Lib.run_unsafeSliceData_row _ _ _ _ _ _ hc0
  clear hc0
  have mixed := L.mixed
  have t72 := L.t72; have a72 := L.a72; have z72 := L.z72; have v72 := L.v72; have u72 := run_underlying L.t72
  have t70 := L.t70; have a70 := L.a70; have z70 := L.z70; have v70 := L.v70; have u70 := run_underlying L.t70
  have t37 := L.t37; have a37 := L.a37; have z37 := L.z37; have v37 := L.v37; have u37 := run_underlying L.t37
  have t127 := L.t127; have a127 := L.a127; have z127 := L.z127; have v127 := L.v127; have u127 := run_underlying L.t127
  have t3 := L.t3; have a3 := L.a3; have z3 := L.z3; have v3 := L.v3; have u3 := run_underlying L.t3
  have t9 := L.t9; have a9 := L.a9; have z9 := L.z9; have v9 := L.v9; have u9 := run_underlying L.t9
  have t5 := X.t5; have a5 := X.a5; have z5 := X.z5; have v5 := X.v5; have u5 := run_underlying X.t5
  go_enter L.f169, Body.n169_ntmps ρ
  go_wp2
  go_region_o
  all_goals (go_wp2; go_ret; exact ⟨rfl, rfl⟩)

theorem bytes_of_RepLL' {C : Ctx} : ∀ {l : List UInt8} {us : List Value}, RepLL C (byteEs' l) us → us = l.map fun b => Value.int .u8 (b.toNat : Int)
  | [], us, h => by simpa [byteEs', RepLL] using h
  | b :: l, us, h => by
    simp only [byteEs', List.map_cons, RepLL] at h
    obtain ⟨p, r, rfl, h1, h2⟩ := h
    simp only [RepL, RepV, RepF] at h1
    obtain ⟨u, r', rfl, rfl, rfl⟩ := h1
    rw [bytes_of_RepLL' h2]; rfl

theorem String_does (L : Lays.n169 P ρ) (X : Builder.Extra P ρ) {fn : Func} {c : Code} (hf : P.funcs[ρ.f 169]? = some fn) (hb : fn.body = some c) (hn : (fn.name == "runtime.NumGoroutine") = false)
    {ver rv : Nat} {addr : AV} (l : List UInt8) (rest : AHeap) :
    Does P G (ρ.f 169) [.ptr 0 ver 0 0] (some (bldO (ρ.t 72) ver addr (.sl 1 rv)) :: some ⟨rv, ρ.t 5, 1, byteEs' l⟩ :: rest) fun ae O => ae = .ret (.str l) ∧ O = some (bldO (ρ.t 72) ver addr (.sl 1 rv)) :: none :: rest := by
  intro C cargs hg hs hr
  have hl : C.live 0 (bldO (ρ.t 72) ver addr (.sl 1 rv)) := by unfold Ctx.live; rw [hs]; rfl
  have hl1 : C.live 1 ⟨rv, ρ.t 5, 1, byteEs' l⟩ := by unfold Ctx.live; rw [hs]; rfl
  obtain ⟨b, cap, cur, x, y, hio, hblk, hcs, hcap, hx0, hy1, hx, hy⟩ := bld_at hg hl
  simp only [RepL, RepV] at hr
  obtain ⟨u, r, rfl, ⟨_, hlt, hp⟩, rfl⟩ := hr
  obtain ⟨g, hgb, rfl⟩ := hp _ hl rfl
  have hgb' : g = b := by rw [hio] at hgb; simpa [Value.ownBlock] using hgb.symm
  subst hgb'
  have hcall : (callFunc (ρ.f 169) #[.pointer (some ⟨g, 0, none⟩)]).run P C.w = .ok (.enter (ρ.f 169) #[.pointer (some ⟨g, 0, none⟩)]) C.w := by
    have hn' : ¬ fn.name = "runtime.NumGoroutine" := by simpa using hn
    simp [callFunc, hf, hn', hb]
  unfold CallsF
  simp only [Nat.zero_mul, Nat.add_zero]
  rw [hcall]
  simp only [RepV] at hy
  have hyv := hy.2.2 _ hl1 rfl
  subst hyv
  have c1 : C.w.drew.cell? ⟨g, 1, none⟩ = some (C.io 1) := by
    have : C.w.drew.heap[g]? = some (.cells cur (ρ.t 72) (0, 0)) := hblk
    simp [World.cell?, this, hy1]
  have fin : ∀ e w', e = .returned (.string ⟨l.toArray⟩) → C.w.grownBy w' (C.io 1).ownBlock → EndPost G C (some (bldO (ρ.t 72) ver addr (.sl 1 rv)) :: some ⟨rv, ρ.t 5, 1, byteEs' l⟩ :: rest).length (fun ae O => ae = .ret (.str l) ∧ O = some (bldO (ρ.t 72) ver addr (.sl 1 rv)) :: none :: rest) e w' := by
    rintro e w' rfl hgrow
    obtain ⟨k1, k2⟩ := good_gone hg hl1 hgrow
    refine ⟨.ret (.str l), (C.free 1).inW w', rfl, k1, k2, by simp [Ctx.inW, Ctx.free, hs], ⟨rfl, by simp [Ctx.inW, Ctx.free, hs]⟩, ?_⟩
    simp only [REnd, RepV, RepF]
  obtain ⟨_, _, _, xs, hown, hrep, _⟩ := hg.obj 1 _ hl1
  have hxs := bytes_of_RepLL' hrep
  have hbl : (byteEs' l).length = l.length := by simp [byteEs']
  rcases hown.2 with ⟨h1, h2⟩ | ⟨g1, cap1, cur1, h1, _, hgc, hnc, hcm, hcs1, htake⟩
  · have hnil : l = [] := List.eq_nil_of_length_eq_zero (by rw [← hbl]; exact h2)
    subst hnil
    rw [h1] at c1
    exact (String_nil L X g C.w c1).mono fun e w' ⟨h3, h4⟩ => fin e w' h3 (by rw [h4]; exact grownBy_drew _ _)
  · simp only [hbl] at h1 hnc htake
    simp only [Nat.mul_one] at hcs1
    have hob : (C.io 1).ownBlock = some g1 := by rw [h1]; rfl
    rw [h1] at c1
    cases l with
    | cons a l' =>
      refine (String_some L X g g1 cap1 cur1 (a :: l') C.w (by simp) c1 hgc hnc hcm hcs1 fun j x hj => ?_).mono fun e w' ⟨h3, h4⟩ => fin e w' h3 (by rw [h4, hob]; exact grownBy_freeze _ _ _)
      have := hown.cells (g := g1) (by rw [h1]; rfl) j (.int .u8 x.toNat) (by rw [hxs, List.getElem?_map, hj]; rfl)
      rw [Addr.add_lit, Nat.zero_add] at this
      exact this
    | nil =>
      by_cases hc0 : cap1 = 0
      · subst hc0
        refine (String_noroom L X g g1 cur1 C.w ?_ c1 hgc).mono fun e w' ⟨h3, h4⟩ => fin e w' h3 (by rw [h4]; exact grownBy_drew_alloc _ _ _)
        exact (Array.getElem?_eq_some_iff.1 hblk).1
      · exact (String_room L X g g1 cap1 C.w hc0 c1).mono fun e w' ⟨h3, h4⟩ => fin e w' h3 (by rw [h4]; exact grownBy_drew _ _)

/-! ### Calls on a builder -/

theorem closedLL_bytes : ∀ l : List UInt8, closedLL (byteEs' l) = true
  | [] => rfl
  | b :: l => by
    have := closedLL_bytes l
    simp only [byteEs'] at this
    simp [byteEs', closedLL, closedL, closed, this]
theorem renO_bytes (js : List Nat) (rv e : Nat) (l : List UInt8) : renO js ⟨rv, e, 1, byteEs' l⟩ = ⟨rv, e, 1, byteEs' l⟩ := by
  simp only [renO, AObj.mk.injEq, true_and]; exact renLL_closed js _ (closedLL_bytes l)

theorem Self.turn {i ver : Nat} {a : AV} (h : Self i ver a) (js : List Nat) (k : Nat) (hk : js[k]? = some i) : ∃ a', Self k ver a' ∧ ren js a' = a := by
  cases h with
  | nil => exact ⟨.nilp, .nil, by simp [ren]⟩
  | at_ => exact ⟨.ptr k ver 0 0, .at_, by simp [ren, hk]⟩

theorem hands_bld {s : AHeap} {i j T v rv e : Nat} {a a' : AV} {l : List UInt8} (hij : i ≠ j) (ha : Self 0 v a') (hr : ren [i, j] a' = a) (hi : s[i]? = some (some (bldO T v a (.sl j rv)))) (hj : s[j]? = some (some ⟨rv, e, 1, byteEs' l⟩)) :
    Hands s [i, j] [some (bldO T v a' (.sl 1 rv)), some ⟨rv, e, 1, byteEs' l⟩] := by
  refine ⟨by simp [hij], rfl, fun k hk => ?_, fun k m hm => ?_, fun o ho => ?_⟩
  · have : k = i ∨ k = j := by simpa using hk
    rcases this with rfl | rfl
    · exact (List.getElem?_eq_some_iff.1 hi).1
    · exact (List.getElem?_eq_some_iff.1 hj).1
  · match k, hm with
    | 0, hm =>
      have : i = m := by simpa using hm
      subst this
      rw [hi]
      simp [renO, bldO, renLL, renL, ren, hr]
    | 1, hm =>
      have : j = m := by simpa using hm
      subst this
      rw [hj]
      simp [renO_bytes]
    | k + 2, hm => simp at hm
  · have : o = bldO T v a' (.sl 1 rv) ∨ o = ⟨rv, e, 1, byteEs' l⟩ := by simpa using ho
    rcases this with rfl | rfl
    · cases ha <;> rfl
    · exact insideLL_closed _ _ (closedLL_bytes l)

section
variable {s : AHeap} {f : FuncId} {K KP : AV → AHeap → Prop}

theorem CallW.bldW {i j T v rv e : Nat} {a r : AV} {x : List AV} {l l' : List UInt8} (hij : i ≠ j) (ha : Self i v a) (hi : s[i]? = Option.some (Option.some (bldO T v a (.sl j rv)))) (hj : s[j]? = Option.some (Option.some ⟨rv, e, 1, byteEs' l⟩))
    (h : ∀ a', Self 0 v a' → Does P G f (.ptr 0 v 0 0 :: x) [Option.some (bldO T v a' (.sl 1 rv)), Option.some ⟨rv, e, 1, byteEs' l⟩] fun ae O => ae = .ret r ∧ ∃ rv', O = [Option.some (bldO T v (.ptr 0 v 0 0) (.sl 1 rv')), Option.some ⟨rv', e, 1, byteEs' l'⟩])
    (hx : closedL x = true) (hr : closed r = true) (k : ∀ rv', setHK s i (bldO T v (.ptr i v 0 0) (.sl j rv')) fun s => setHK s j ⟨rv', e, 1, byteEs' l'⟩ (K r)) : CallW P G f (.ptr i v 0 0 :: x) s K KP := by
  obtain ⟨a', ha', hr'⟩ := ha.turn [i, j] 0 rfl
  refine CallW.ofN [i, j] (h a' ha') (hands_bld hij ha' hr' hi hj) ?_ ?_ ?_
  · simp [renL, ren, renL_closed _ _ hx]
  · simp [insideL, inside, insideL_closed _ _ hx]
  · rintro ae O ⟨rfl, rv', rfl⟩ _
    have := k rv'
    simp only [setHK_eq] at this
    simp only [putR, Option.map_some, renO_bytes, ren_closed _ _ hr]
    simpa [renO, bldO, renLL, renL, ren] using this
theorem CallW.bldS {i j T v rv e : Nat} {a r : AV} {x : List AV} {l : List UInt8} (hij : i ≠ j) (ha : Self i v a) (hi : s[i]? = Option.some (Option.some (bldO T v a (.sl j rv)))) (hj : s[j]? = Option.some (Option.some ⟨rv, e, 1, byteEs' l⟩))
    (h : ∀ a', Self 0 v a' → Does P G f (.ptr 0 v 0 0 :: x) [Option.some (bldO T v a' (.sl 1 rv)), Option.some ⟨rv, e, 1, byteEs' l⟩] fun ae O => ae = .ret r ∧ O = [Option.some (bldO T v a' (.sl 1 rv)), none])
    (hx : closedL x = true) (hr : closed r = true) (k : K r (s.set j none)) : CallW P G f (.ptr i v 0 0 :: x) s K KP := by
  obtain ⟨a', ha', hr'⟩ := ha.turn [i, j] 0 rfl
  refine CallW.ofN [i, j] (h a' ha') (hands_bld hij ha' hr' hi hj) ?_ ?_ ?_
  · simp [renL, ren, renL_closed _ _ hx]
  · simp [insideL, inside, insideL_closed _ _ hx]
  · rintro ae O ⟨rfl, rfl⟩ _
    have e1 : renO [i, j] (bldO T v a' (.sl 1 rv)) = bldO T v a (.sl j rv) := by simp [renO, bldO, renLL, renL, ren, hr']
    have e2 : s.set i (Option.some (bldO T v a (.sl j rv))) = s := by
      obtain ⟨h1, h2⟩ := List.getElem?_eq_some_iff.1 hi
      rw [← h2, List.set_getElem_self]
    simp only [putR, Option.map_some, Option.map_none, ren_closed _ _ hr, e1, e2]
    exact k
end

end
end Go.Abs
/- From a contract of this layer to what a row asks: the law answers true, and all that lay in memory lies there as it did. -/
namespace Go.Abs
open Go

/-- A world before the law begins: nothing in it is the call's own. -/
def Ctx.top (W : World) : Ctx := { w := W, s := [], io := fun _ => .nilFunc, N := 0, F := fun _ => False }
theorem top_live {W : World} {i : Nat} {o : AObj} : ¬ (Ctx.top W).live i o := by simp [Ctx.top, Ctx.live]
theorem top_fz {W : World} {b : Nat} (h : b < W.heap.size) : (Ctx.top W).fz b := ⟨h, fun _ _ hl => absurd hl top_live, fun h => h⟩
theorem top_good {G : Globs} {W : World} (h : ∀ p ∈ G, ∃ us, p.1 < W.heap.size ∧ reads W p.1 0 us ∧ RepFL (Ctx.top W) p.2 us) : Good G (Ctx.top W) :=
  ⟨fun _ _ hl => absurd hl top_live, fun _ _ _ _ hl => absurd hl top_live, fun _ _ hl => absurd hl top_live, fun _ h => h.elim, fun p hp => by
    obtain ⟨us, h1, h2, h3⟩ := h p hp
    exact ⟨us, top_fz h1, h2, h3⟩⟩
theorem Does.law {P : Program} {G : Globs} {f : FuncId} {fn : Func} {c : Code} {args : List AV} {cargs : Array Value} {W : World} (h : Does P G f args [] fun ae _ => ae = .ret (.bool true)) (hf : P.funcs[f]? = some fn) (hb : fn.body = some c)
    (hn : (fn.name == "runtime.NumGoroutine") = false) (hg : Good G (Ctx.top W)) (hr : RepL (Ctx.top W) args cargs.toList) : Calls P f cargs W fun e w' => e = .returned (.bool true) ∧ RowKit.Below W.heap.size W w' := by
  have hn' : ¬ fn.name = "runtime.NumGoroutine" := by simpa using hn
  have hcall : (callFunc f cargs).run P W = .ok (.enter f cargs) W := by simp [callFunc, hf, hn', hb]
  have h1 := h (Ctx.top W) cargs.toList hg rfl hr
  simp only [Array.toArray_toList] at h1
  unfold CallsF at h1
  have h2 : (callFunc f cargs).run P (Ctx.top W).w = .ok (.enter f cargs) W := hcall
  rw [h2] at h1
  refine Calls.mono h1 ?_
  rintro e w' ⟨ae, C', rfl, g1, g2, g3, rfl, g4⟩
  cases e with
  | returned v =>
    simp only [REnd, RepV, RepF] at g4
    subst g4
    exact ⟨rfl, ⟨g2.os, g2.tape, g2.output, g2.size, fun k hk => (g2.fz k (top_fz hk)).2⟩⟩
  | panicked ch => exact g4.elim
  | outgrown => exact g4.elim
end Go.Abs
/- A row's wrap: with what the listed variables read as, and with the world's shape, both. -/
namespace Go.Abs
open Go
variable {H : Type} {enc : TypeId × Value → H}

theorem returns_both {a : Assume} {C : Checked} {os : Os} {f : FuncId} {fn : Func} {s : ChangeSpec} {conds : List PathCond} {apart fresh handsOn again : Bool} {X : World → Array Value → Prop}
    (hX : ∀ (w w' : World) (args : Array Value), w.heap = w'.heap → X w args → X w' args)
    (own : ownKnob C.prog.godebug = none) (started : os.Started) (noInit : C.prog.inits.idxOf? f = none) (hfn : C.prog.funcs[f]? = some fn)
    (witness : ∃ (w : World) (tape : Tape) (i : Input), w.os = os ∧ (w.forCall tape i).Shaped C.prog ∧ i.vars = [] ∧ Input.okWide C.prog (w.forCall tape i) .any w.heap.size f i ∧
      ((s.pre enc C.prog fn conds apart (w.forCall tape i).memory i.args ∧ X (w.forCall tape i).memory i.args) ∧ sizedMet enc C.prog fn (OpenSpec.ofChange s) apart (w.forCall tape i).memory i.args) ∧ a.holds C.prog (lone (Frame.enter C.prog f i.args .normal) [] (w.forCall tape i)))
    (contract : ∀ (W : World) (base : Nat) (args : Array Value) (ds gs : List (DataW H)) (before : List MemPlace),
      (∀ (j : Nat) t v, fn.params[j]? = some t → args[j]? = some v → Value.okWide C.prog W .any base t v) →
      DataW.Whole enc C.prog fn.params.toList s.vars apart W args.toList ds gs before →
      conds.all (PathCond.test C.prog ⟨fn.params.toList, ds, s.plain.varTypes C.prog, gs⟩) = true →
      (DataW.weightsEach C.prog (fn.params.toList ++ s.plain.varTypes C.prog) (ds ++ gs)).all (· ≤ reachBytes) = true → X W args → W.ShapedOpen C.prog →
      a.holds C.prog (lone (Frame.enter C.prog f args .normal) [] W) →
      Calls C.prog f args W fun e W' => ∃ v, e = .returned v ∧ s.post enc C.prog fn apart fresh handsOn again W args v W') :
    ReturnsInHanded a C os f .any (fun w args => (s.pre enc C.prog fn conds apart w args ∧ X w args) ∧ sizedMet enc C.prog fn (OpenSpec.ofChange s) apart w args) (s.post enc C.prog fn apart fresh handsOn again) := by
  refine returnsInHanded_of_calls own started noInit witness ?_
  intro w tape i _ hsh _ hok hpre hholds
  obtain ⟨_, _, _, fn', hfn', _, _, _, _, hval⟩ := hok
  have e : fn' = fn := Option.some.inj (hfn'.symm.trans hfn)
  subst e
  obtain ⟨⟨⟨ds, gs, before, hw, hc⟩, hx⟩, hz⟩ := hpre
  have hw' := DataW.Whole.of_heap (w' := w.forCall tape i) (by rfl) hw
  refine (contract (w.forCall tape i) w.heap.size i.args ds gs before hval hw' hc (hz.weights hw) (hX _ _ _ (by rfl) hx) hsh hholds).mono fun e W' ⟨v, he, hp⟩ => ?_
  subst he
  exact ChangeSpec.post_blind hp
end Go.Abs
/- Arguments, from what they read as, to values without addresses. -/
namespace Go.Abs
open Go

theorem RepFL.append {C : Ctx} : ∀ {xs ys : List AV} {us vs : List Value}, RepFL C xs us → RepFL C ys vs → RepFL C (xs ++ ys) (us ++ vs)
  | [], ys, us, vs, h, k => by simp only [RepFL] at h; subst h; simpa using k
  | a :: xs, ys, us, vs, h, k => by
    simp only [RepFL] at h
    obtain ⟨x, r, rfl, h1, h2⟩ := h
    simp only [List.cons_append, RepFL]
    exact ⟨x, _, rfl, h1, RepFL.append h2 k⟩
theorem RepFLL.snoc {C : Ctx} : ∀ {es : List (List AV)} {e : List AV} {us vs : List Value}, RepFLL C es us → RepFL C e vs → RepFLL C (es ++ [e]) (us ++ vs)
  | [], e, us, vs, h, k => by simp only [RepFLL] at h; subst h; simp only [List.nil_append, RepFLL]; exact ⟨vs, [], by simp, k, rfl⟩
  | a :: es, e, us, vs, h, k => by
    simp only [RepFLL] at h
    obtain ⟨p, r, rfl, h1, h2⟩ := h
    simp only [List.cons_append, RepFLL]
    exact ⟨p, _, by simp, h1, RepFLL.snoc h2 k⟩

/-- What a type's values read as. -/
def Opens (P : Program) (t : TypeId) {X : Type} (n : Nat) (f : X → List AV) (wf : X → Prop) : Prop :=
  P.cellsOf t = n ∧ ∀ (H : Type) (enc : TypeId × Value → H) (W : World) (fuel : Nat) (cs : List Value) (x : DataW H × List MemPlace),
    DataW.trod enc P W 0 (fun _ => true) true fuel t cs = some x → ∃ a : X, wf a ∧ (f a).length = n ∧ RepFL (Ctx.top W) (f a) cs

section
variable {P : Program} {t e : TypeId} {X Y : Type} {n m : Nat} {f : X → List AV} {wf : X → Prop}

theorem Opens.int {k : IntKind} (ht : P.underlying t = some (.int k)) (hc : P.cellsOf t = 1) : Opens P t 1 (fun z : Int => [.int k z]) (fun z => (Lit.int k z).wf = true) :=
  ⟨hc, fun H enc W fuel cs x h => by
    obtain ⟨z, rfl, _, hw⟩ := DataW.trod_int ht h
    exact ⟨z, hw, rfl, by simp [RepFL, RepF]⟩⟩
theorem Opens.bool (ht : P.underlying t = some .bool) (hc : P.cellsOf t = 1) : Opens P t 1 (fun z : Bool => [.bool z]) (fun _ => True) :=
  ⟨hc, fun H enc W fuel cs x h => by
    obtain ⟨z, rfl, _⟩ := DataW.trod_bool ht h
    exact ⟨z, trivial, rfl, by simp [RepFL, RepF]⟩⟩
theorem Opens.str (ht : P.underlying t = some .string) (hc : P.cellsOf t = 1) : Opens P t 1 (fun s : List UInt8 => [.str s]) (fun s => s.length ≤ maxLen) :=
  ⟨hc, fun H enc W fuel cs x h => by
    obtain ⟨⟨⟨s⟩⟩, rfl, _, hw⟩ := DataW.trod_string ht h
    exact ⟨s, hw, rfl, by simp [RepFL, RepF]⟩⟩
theorem Opens.map {f' : Y → List AV} {wf' : Y → Prop} (h : Opens P t n f wf) (g : X → Y) (hf : ∀ x, f' (g x) = f x) (hw : ∀ x, wf x → wf' (g x)) : Opens P t n f' wf' :=
  ⟨h.1, fun H enc W fuel cs x h1 => by
    obtain ⟨a, h2, h3, h4⟩ := h.2 H enc W fuel cs x h1
    exact ⟨g a, hw a h2, by rw [hf]; exact h3, by rw [hf]; exact h4⟩⟩

/-- The fields of a struct, from a place on. -/
def OpensFs (P : Program) (fs : List Field) (o : Nat) {X : Type} (n : Nat) (f : X → List AV) (wf : X → Prop) : Prop :=
  ∀ (H : Type) (enc : TypeId × Value → H) (W : World) (fuel : Nat) (cs : List Value), o + n ≤ cs.length →
    (∀ fl ∈ fs, ∃ y, DataW.trod enc P W 0 (fun _ => true) true fuel fl.type ((cs.drop fl.offset).take (P.cellsOf fl.type)) = some y) →
    ∃ a : X, wf a ∧ (f a).length = n ∧ RepFL (Ctx.top W) (f a) ((cs.drop o).take n)
theorem OpensFs.nil (o : Nat) : OpensFs P [] o 0 (fun _ : Unit => []) (fun _ => True) := fun _ _ _ _ _ _ _ => ⟨(), trivial, rfl, by simp [RepFL]⟩
theorem OpensFs.cons {fl : Field} {fs : List Field} {o k : Nat} {g : Y → List AV} {wg : Y → Prop} (h : Opens P fl.type k f wf) (ho : fl.offset = o) (r : OpensFs P fs (o + k) n g wg) :
    OpensFs P (fl :: fs) o (k + n) (fun x : X × Y => f x.1 ++ g x.2) (fun x => wf x.1 ∧ wg x.2) := fun H enc W fuel cs hl hall => by
  obtain ⟨y, hy⟩ := hall fl (by simp)
  rw [ho, h.1] at hy
  obtain ⟨a, h1, h2, h3⟩ := h.2 H enc W fuel _ y hy
  obtain ⟨b, k1, k2, k3⟩ := r H enc W fuel cs (by omega) fun x hx => hall x (by simp [hx])
  refine ⟨(a, b), ⟨h1, k1⟩, by simp [h2, k2], ?_⟩
  have e1 : (cs.drop o).take (k + n) = (cs.drop o).take k ++ (cs.drop (o + k)).take n := by
    rw [List.take_add, List.drop_drop]
  rw [e1]
  exact RepFL.append h3 k3
theorem Opens.struct {fs : Array Field} (ht : P.underlying t = some (.struct fs)) (hc : P.cellsOf t = n) (h : OpensFs P fs.toList 0 n f wf) : Opens P t n f wf :=
  ⟨hc, fun H enc W fuel cs x h1 => by
    obtain ⟨xs, m, rfl, rfl, hl, hn, hfs⟩ := DataW.trod_struct ht h1
    obtain ⟨a, k1, k2, k3⟩ := h H enc W m cs (by omega) fun fl hfl => by
      obtain ⟨i, hi, rfl⟩ := List.getElem_of_mem hfl
      have := hfs i fs.toList[i] (by simp)
      rw [this]
      exact ⟨xs[i]'(by rw [hn]; simpa using hi), List.getElem?_eq_getElem _⟩
    refine ⟨a, k1, k2, ?_⟩
    rw [List.drop_zero, List.take_of_length_le (by omega)] at k3
    exact k3⟩

theorem Opens.array (ht : P.underlying t = some (.array m e)) (hc : P.cellsOf t = m * n) (he : Opens P e n f wf) :
    Opens P t (m * n) (fun xs : List X => xs.flatMap f) (fun xs => xs.length = m ∧ ∀ x ∈ xs, wf x) :=
  ⟨hc, fun H enc W fuel cs x h1 => by
    obtain ⟨xs, q, rfl, rfl, hl, hn, hfs⟩ := DataW.trod_array ht h1
    have key : ∀ k, k ≤ m → ∃ ys : List X, (ys.length = k ∧ ∀ y ∈ ys, wf y) ∧ (ys.flatMap f).length = k * n ∧ RepFL (Ctx.top W) (ys.flatMap f) (cs.take (k * n)) := by
      intro k
      induction k with
      | zero => intro _; exact ⟨[], ⟨rfl, fun y hy => by cases hy⟩, by simp, by simp [RepFL]⟩
      | succ k ih =>
        intro hk
        obtain ⟨ys, ⟨a1, a2⟩, a3, a4⟩ := ih (by omega)
        have h2 := hfs k (by omega)
        rw [List.getElem?_eq_getElem (by omega), he.1] at h2
        obtain ⟨y, b1, b2, b3⟩ := he.2 H enc W q _ _ h2
        refine ⟨ys ++ [y], ⟨by simp [a1], fun z hz => ?_⟩, by simp [a3, b2, Nat.add_mul], ?_⟩
        · rcases List.mem_append.1 hz with hz | hz
          · exact a2 z hz
          · rw [List.mem_singleton.1 hz]; exact b1
        · rw [Nat.add_mul, Nat.one_mul, List.take_add]
          simp only [List.flatMap_append, List.flatMap_cons, List.flatMap_nil, List.append_nil]
          exact RepFL.append a4 b3
    obtain ⟨ys, a1, a2, a3⟩ := key m (Nat.le_refl m)
    refine ⟨ys, a1, a2, ?_⟩
    rw [List.take_of_length_le (by omega)] at a3
    exact a3⟩

theorem cell_spot {W : World} {a : Addr} {v : Value} (h : W.cell? a = some v) : a.spot = none ∧ a.block < W.heap.size := by
  unfold World.cell? at h
  split at h
  · rename_i c t fr hb
    split at h
    · cases h
    · rename_i hs
      exact ⟨by simpa using hs, (Array.getElem?_eq_some_iff.1 hb).1⟩
  · cases h
theorem addr_add_add (a : Addr) (i j : Nat) : (a.add i).add j = a.add (i + j) := by
  unfold Addr.add
  by_cases hi : i = 0
  · subst hi; simp
  · by_cases hj : j = 0
    · subst hj; simp [hi]
    · simp [hi, hj, Nat.add_assoc]

theorem Opens.slice (ht : P.underlying t = some (.slice e)) (hc : P.cellsOf t = 1) (hn : 0 < n) (he : Opens P e n f wf) :
    Opens P t 1 (fun xs : List X => [.fsl (xs.map f)]) (fun xs => (xs.length : Int) ≤ maxLen ∧ ∀ x ∈ xs, wf x) :=
  ⟨hc, fun H enc W fuel cs x h1 => by
    rcases DataW.trod_slice ht h1 with ⟨rfl, rfl⟩ | ⟨a, len, cap, elems, rest, q, rfl, rfl, rfl, hb, hlc, hcm, hel, hget, _, _⟩
    · refine ⟨[], ⟨by simp, fun y hy => by cases hy⟩, rfl, ?_⟩
      simp only [RepFL, RepF]
      exact ⟨_, [], rfl, ⟨none, 0, by simp, by simp, .inl ⟨rfl, fun _ => rfl⟩⟩, rfl⟩
    · have key : ∀ k, k ≤ len → ∃ (ys : List X) (us : List Value), (ys.length = k ∧ ∀ y ∈ ys, wf y) ∧ us.length = k * n ∧ RepFLL (Ctx.top W) (ys.map f) us ∧ ∀ j u, us[j]? = some u → W.cell? (a.add j) = some u := by
        intro k
        induction k with
        | zero => intro _; exact ⟨[], [], ⟨rfl, fun y hy => by cases hy⟩, by simp, by simp [RepFLL], fun j u h => by simp at h⟩
        | succ k ih =>
          intro hk
          obtain ⟨ys, us, ⟨a1, a2⟩, a3, a4, a5⟩ := ih (by omega)
          have h2 := hget k (by omega)
          rw [List.getElem?_eq_getElem (by omega), Option.bind_eq_some_iff] at h2
          obtain ⟨cs', h3, h4⟩ := h2
          rw [he.1] at h3
          obtain ⟨_, c2, c3⟩ := World.cells?_some h3
          obtain ⟨y, b1, b2, b3⟩ := he.2 H enc W q _ _ h4
          refine ⟨ys ++ [y], us ++ cs', ⟨by simp [a1], fun z hz => ?_⟩, by simp [a3, c2, Nat.add_mul], ?_, fun j u hj => ?_⟩
          · rcases List.mem_append.1 hz with hz | hz
            · exact a2 z hz
            · rw [List.mem_singleton.1 hz]; exact b1
          · rw [List.map_append]; exact RepFLL.snoc a4 b3
          · by_cases hlt : j < us.length
            · rw [List.getElem?_append_left hlt] at hj; exact a5 j u hj
            · rw [List.getElem?_append_right (by omega)] at hj
              have hlt2 := (List.getElem?_eq_some_iff.1 hj).1
              have := c3 (j - us.length) (by omega)
              rw [addr_add_add, show k * n + (j - us.length) = j by omega] at this
              rw [this]; exact hj
      obtain ⟨ys, us, ⟨a1, a2⟩, a3, a4, a5⟩ := key len (Nat.le_refl len)
      refine ⟨ys, ⟨by rw [a1]; exact_mod_cast Nat.le_trans hlc hcm, a2⟩, rfl, ?_⟩
      simp only [RepFL, RepF]
      refine ⟨_, [], rfl, ⟨some a, cap, by simp [a1, hlc], by simp [a1], ?_⟩, rfl⟩
      by_cases h0 : len = 0
      · left
        subst h0
        exact ⟨by rw [List.map_eq_nil_iff]; exact List.eq_nil_of_length_eq_zero a1, fun h => by cases h⟩
      · right
        have hpos : 0 < us.length := by rw [a3]; exact Nat.mul_pos (by omega) hn
        have hz := a5 0 us[0] (List.getElem?_eq_getElem hpos)
        have e0 : a.add 0 = a := by simp [Addr.add]
        rw [e0] at hz
        obtain ⟨s1, s2⟩ := cell_spot hz
        obtain ⟨b, off, spot⟩ := a
        simp only at s1 s2
        subst s1
        refine ⟨b, off, us, rfl, top_fz s2, fun j u hj => ?_, a4⟩
        have := a5 j u hj
        rw [Addr.add_lit] at this
        exact this⟩

/-- An argument that is a struct or an array. -/
theorem Opens.agg (h : Opens P t n f wf) {H : Type} {enc : TypeId × Value → H} {W : World} {us : Array Value} {d : DataW H} {ps : List MemPlace} (hd : DataW.Trod enc P W 0 (fun _ => true) true t (.agg us) d ps) :
    ∃ a, wf a ∧ RepV (Ctx.top W) (.agg (f a)) (.agg us) := by
  obtain ⟨fuel, hf⟩ := hd
  obtain ⟨a, h1, _, h2⟩ := h.2 H enc W fuel _ _ hf
  refine ⟨a, h1, ?_⟩
  simp only [RepV]
  exact ⟨us, rfl, RepFL.repL _ _ h2⟩
/-- An argument that is one cell. -/
theorem Opens.one {g : X → AV} (h : Opens P t n (fun x => [g x]) wf) {H : Type} {enc : TypeId × Value → H} {W : World} {v : Value} {d : DataW H} {ps : List MemPlace} (hv : v.cells.toList = [v]) (hd : DataW.Trod enc P W 0 (fun _ => true) true t v d ps) :
    ∃ a, wf a ∧ RepV (Ctx.top W) (g a) v := by
  obtain ⟨fuel, hf⟩ := hd
  obtain ⟨a, h1, _, h2⟩ := h.2 H enc W fuel _ _ hf
  rw [hv] at h2
  simp only [RepFL] at h2
  obtain ⟨u, r, h3, h4, rfl⟩ := h2
  simp only [List.cons.injEq] at h3
  obtain ⟨rfl, _⟩ := h3
  exact ⟨a, h1, RepF.repV _ _ h4⟩
end
end Go.Abs
/- Steps that a goal of this layer takes by itself: each rule's last premise is proved where the rule is used, by the tactic that stands here once. -/
namespace Go.Abs
open Go

/-- So many plain steps as there are. -/
theorem gos {P K : Prop} (k : K) (h : K → P := by intro k; (repeat (first | refine And.intro rfl ?_ | refine Exists.intro _ (And.intro (wrap_i64 (by clear k; first | omega | (simp; done) | (simp; omega)) (by clear k; first | omega | (simp; done) | (simp; omega))) ?_) | refine Exists.intro _ (And.intro rfl ?_) | refine And.intro (fun _ => ?_) (fun h => Bool.noConfusion h) | refine And.intro (fun h => Bool.noConfusion h) (fun _ => ?_) | refine And.intro (And.intro (by decide) (by decide)) ?_ | refine And.intro (And.intro (Nat.le_of_ble_eq_true rfl) (Nat.le_of_ble_eq_true rfl)) ?_ | refine And.intro (And.intro rfl (And.intro rfl (And.intro rfl rfl))) ?_ | refine And.intro (And.intro rfl (And.intro rfl (Nat.le_of_ble_eq_true rfl))) ?_ | refine And.intro (And.intro rfl (And.intro rfl rfl)) ?_ | refine And.intro trivial ?_ | refine CmpW.t rfl ?_ | refine CmpW.f rfl ?_)); exact k) : P := h k
/-- One plain step, and more. -/
theorem gon {P K : Prop} (k : K) (h : K → P := by intro k; (first | refine And.intro rfl ?_ | refine Exists.intro _ (And.intro (wrap_i64 (by clear k; first | omega | (simp; done) | (simp; omega)) (by clear k; first | omega | (simp; done) | (simp; omega))) ?_) | refine Exists.intro _ (And.intro rfl ?_) | refine And.intro (fun _ => ?_) (fun h => Bool.noConfusion h) | refine And.intro (fun h => Bool.noConfusion h) (fun _ => ?_) | refine And.intro (And.intro (by decide) (by decide)) ?_ | refine And.intro (And.intro (Nat.le_of_ble_eq_true rfl) (Nat.le_of_ble_eq_true rfl)) ?_ | refine And.intro (And.intro rfl (And.intro rfl (And.intro rfl rfl))) ?_ | refine And.intro (And.intro rfl (And.intro rfl (Nat.le_of_ble_eq_true rfl))) ?_ | refine And.intro (And.intro rfl (And.intro rfl rfl)) ?_ | refine And.intro trivial ?_ | refine CmpW.t rfl ?_ | refine CmpW.f rfl ?_); (repeat (first | refine And.intro rfl ?_ | refine Exists.intro _ (And.intro (wrap_i64 (by clear k; first | omega | (simp; done) | (simp; omega)) (by clear k; first | omega | (simp; done) | (simp; omega))) ?_) | refine Exists.intro _ (And.intro rfl ?_) | refine And.intro (fun _ => ?_) (fun h => Bool.noConfusion h) | refine And.intro (fun h => Bool.noConfusion h) (fun _ => ?_) | refine And.intro (And.intro (by decide) (by decide)) ?_ | refine And.intro (And.intro (Nat.le_of_ble_eq_true rfl) (Nat.le_of_ble_eq_true rfl)) ?_ | refine And.intro (And.intro rfl (And.intro rfl (And.intro rfl rfl))) ?_ | refine And.intro (And.intro rfl (And.intro rfl (Nat.le_of_ble_eq_true rfl))) ?_ | refine And.intro (And.intro rfl (And.intro rfl rfl)) ?_ | refine And.intro trivial ?_ | refine CmpW.t rfl ?_ | refine CmpW.f rfl ?_)); exact k) : P := h k
/-- Likewise, with what is asked where a row is appended to. -/
theorem gof {P K : Prop} (k : K) (h : K → P := by intro k; (first | refine And.intro rfl ?_ | refine Exists.intro _ (And.intro (wrap_i64 (by clear k; first | omega | (simp; done) | (simp; omega)) (by clear k; first | omega | (simp; done) | (simp; omega))) ?_) | refine Exists.intro _ (And.intro rfl ?_) | refine And.intro (fun _ => ?_) (fun h => Bool.noConfusion h) | refine And.intro (fun h => Bool.noConfusion h) (fun _ => ?_) | refine And.intro (And.intro (by decide) (by decide)) ?_ | refine And.intro (And.intro (Nat.le_of_ble_eq_true rfl) (Nat.le_of_ble_eq_true rfl)) ?_ | refine And.intro (And.intro rfl (And.intro rfl (And.intro rfl rfl))) ?_ | refine And.intro (And.intro rfl (And.intro rfl (Nat.le_of_ble_eq_true rfl))) ?_ | refine And.intro (And.intro rfl (And.intro rfl rfl)) ?_ | refine And.intro trivial ?_ | refine CmpW.t rfl ?_ | refine CmpW.f rfl ?_ | (refine And.intro (And.intro (fun y hy => by clear k; rcases List.mem_singleton.1 hy with rfl; rfl) (fun y hy => by clear k; rcases List.mem_singleton.1 hy with rfl; rfl)) ?_; refine And.intro (And.intro rfl trivial) ?_) | refine And.intro (And.intro (Nat.le_trans (show _ ≤ 200000 from (by clear k; simp; omega)) (Nat.le_of_ble_eq_true rfl)) (Nat.le_trans (Nat.mul_le_mul_right _ (show _ ≤ 200000 from (by clear k; simp; omega))) (Nat.le_of_ble_eq_true rfl))) ?_); (repeat (first | refine And.intro rfl ?_ | refine Exists.intro _ (And.intro (wrap_i64 (by clear k; first | omega | (simp; done) | (simp; omega)) (by clear k; first | omega | (simp; done) | (simp; omega))) ?_) | refine Exists.intro _ (And.intro rfl ?_) | refine And.intro (fun _ => ?_) (fun h => Bool.noConfusion h) | refine And.intro (fun h => Bool.noConfusion h) (fun _ => ?_) | refine And.intro (And.intro (by decide) (by decide)) ?_ | refine And.intro (And.intro (Nat.le_of_ble_eq_true rfl) (Nat.le_of_ble_eq_true rfl)) ?_ | refine And.intro (And.intro rfl (And.intro rfl (And.intro rfl rfl))) ?_ | refine And.intro (And.intro rfl (And.intro rfl (Nat.le_of_ble_eq_true rfl))) ?_ | refine And.intro (And.intro rfl (And.intro rfl rfl)) ?_ | refine And.intro trivial ?_ | refine CmpW.t rfl ?_ | refine CmpW.f rfl ?_ | (refine And.intro (And.intro (fun y hy => by clear k; rcases List.mem_singleton.1 hy with rfl; rfl) (fun y hy => by clear k; rcases List.mem_singleton.1 hy with rfl; rfl)) ?_; refine And.intro (And.intro rfl trivial) ?_) | refine And.intro (And.intro (Nat.le_trans (show _ ≤ 200000 from (by clear k; simp; omega)) (Nat.le_of_ble_eq_true rfl)) (Nat.le_trans (Nat.mul_le_mul_right _ (show _ ≤ 200000 from (by clear k; simp; omega))) (Nat.le_of_ble_eq_true rfl))) ?_)); exact k) : P := h k
/-- Bounds where a row is appended to. -/
theorem gobnd {P K : Prop} (k : K) (h : K → P := by intro k; refine And.intro (And.intro (Nat.le_trans (show _ ≤ 200000 from (by clear k; simp; omega)) (Nat.le_of_ble_eq_true rfl)) (Nat.le_trans (Nat.mul_le_mul_right _ (show _ ≤ 200000 from (by clear k; simp; omega))) (Nat.le_of_ble_eq_true rfl))) ?_; exact k) : P := h k
/-- A number that is plain to see. -/
theorem ar {p : Prop} (h : p := by first | omega | (simp; done) | (simp; omega) | (simp at *; omega)) : p := h
theorem CmpW.T {b : Bool} {K : Bool → Prop} (k : K true) (h : b = true := by first | omega | (simp; done) | (simp; omega) | (simp at *; omega)) : CmpW b K := CmpW.t h k
theorem CmpW.N {b : Bool} {K : Bool → Prop} (k : K false) (h : b = false := by first | omega | (simp; done) | (simp; omega) | (simp at *; omega)) : CmpW b K := CmpW.f h k
theorem DrawW.L {P : Program} {G : Globs} {T : TT} {ops : List Oper} {K : Env → AHeap → Prop} {KP : AV → AHeap → Prop} {e : Env} {s : AHeap} (h : wpo P G T ops K KP ops e s)
    (h1 : linOK T ops.toArray (Array.replicate ops.length false) (List.range' 0 ops.length) = true := by kernel_rfl) (h2 : Region.noSelect ops.toArray = true := by kernel_rfl) : DrawW P G T ops K KP e s := DrawW.lex h1 h2 h
theorem DrawW.P {P : Program} {G : Globs} {T : TT} {ops : List Oper} {K : Env → AHeap → Prop} {KP : AV → AHeap → Prop} {e : Env} {s : AHeap} (p : Plan) (h : wpPlan P G T ops K KP p e s)
    (h1 : planOK T ops.toArray ops.length (Array.replicate ops.length false) p = true := by kernel_rfl) (h2 : Region.noSelect ops.toArray = true := by kernel_rfl) : DrawW P G T ops K KP e s := DrawW.plan p h1 h2 h
theorem fgts {a b : Env} (h : Fgt a b := by (repeat (first | exact Fgt.nil | refine Fgt.keep ?_ | refine Fgt.drop ?_))) : Fgt a b := h
end Go.Abs
