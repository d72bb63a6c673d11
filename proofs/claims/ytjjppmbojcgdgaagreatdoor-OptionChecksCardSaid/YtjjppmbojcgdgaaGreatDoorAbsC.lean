/- A clean state beside the machine's, and what each operation does to it: a part of the means by which this claim is proved. -/
import Derived.Test.YtjjppmbojcgdgaaGreatDoorAbsB
import Derived.Shelf.Strings.BuilderK
import Derived.HandedShaped
set_option linter.unusedVariables false
set_option linter.unusedSimpArgs false
/- The library's contracts (the shelf's) as contracts of this layer. -/
namespace Go.Abs
open Go
section
variable {P : Program} {G : Globs}
theorem grown_below {w w' : World} (h : RowKit.Below w.heap.size w w') : w.grownBy w' none := ⟨h.os, h.tape, h.output, h.size, fun k hk _ => h.block k hk⟩
theorem Does.of_calls {f : FuncId} {fn : Func} {c : Code} {args : List AV} {r : AV} {v : Value} (hf : P.funcs[f]? = some fn) (hb : fn.body = some c) (hn : (fn.name == "runtime.NumGoroutine") = false)
    (hr : ∀ C, RepF C r v) (h : ∀ C cargs, Good G C → RepL C args cargs → Calls P f cargs.toArray C.w fun e w' => e = .returned v ∧ RowKit.Below C.w.heap.size C.w w') : Does P G f args [] fun ae _ => ae = .ret r := by
  intro C cargs hg hs hrep
  have hn' : ¬ fn.name = "runtime.NumGoroutine" := by simpa using hn
  have hcall : (callFunc f cargs.toArray).run P C.w = .ok (.enter f cargs.toArray) C.w := by simp [callFunc, hf, hn', hb]
  unfold CallsF
  rw [hcall]
  refine (h C cargs hg hrep).mono ?_
  rintro e w' ⟨rfl, hbl⟩
  have hgr := grown_below hbl
  exact ⟨.ret r, C.inW w', rfl, good_grown hg hgr, ext_grown hg hgr, by simp [Ctx.inW, hs], rfl, RepF.repV _ _ (hr _)⟩
theorem below_same (w : World) : RowKit.Below w.heap.size w w := RowKit.Below.refl _ _
theorem rep_str1 {C : Ctx} {s : List UInt8} {cargs : List Value} (h : RepL C [.str s] cargs) : cargs = [.string ⟨⟨s⟩⟩] := by
  simp only [RepL, RepV, RepF] at h
  obtain ⟨u, r, rfl, rfl, rfl⟩ := h; rfl
theorem rep_str2 {C : Ctx} {s t : List UInt8} {cargs : List Value} (h : RepL C [.str s, .str t] cargs) : cargs = [.string ⟨⟨s⟩⟩, .string ⟨⟨t⟩⟩] := by
  simp only [RepL, RepV, RepF] at h
  obtain ⟨u, r, rfl, rfl, u', r', rfl, rfl, rfl⟩ := h; rfl
theorem rep_str3 {C : Ctx} {s t q : List UInt8} {cargs : List Value} (h : RepL C [.str s, .str t, .str q] cargs) : cargs = [.string ⟨⟨s⟩⟩, .string ⟨⟨t⟩⟩, .string ⟨⟨q⟩⟩] := by
  simp only [RepL, RepV, RepF] at h
  obtain ⟨u, r, rfl, rfl, u', r', rfl, rfl, u'', r'', rfl, rfl, rfl⟩ := h; rfl
theorem rep_strint {C : Ctx} {s : List UInt8} {k : IntKind} {n : Int} {cargs : List Value} (h : RepL C [.str s, .int k n] cargs) : cargs = [.string ⟨⟨s⟩⟩, .int k n] := by
  simp only [RepL, RepV, RepF] at h
  obtain ⟨u, r, rfl, rfl, u', r', rfl, rfl, rfl⟩ := h; rfl
theorem glob_int {C : Ctx} (hg : Good G C) {g : Nat} {k : IntKind} {m : Int} (h : (g, [AV.int k m]) ∈ G) : C.w.cell? ⟨g, 0, none⟩ = some (.int k m) := by
  obtain ⟨us, h1, h2, h3⟩ := hg.glob _ h
  simp only [RepFL, RepF] at h3
  obtain ⟨u, r, rfl, rfl, _⟩ := h3
  exact h2.1 0 _ rfl
end
end Go.Abs
/- strings.Builder, as two objects: the struct, and the row of bytes. -/
namespace Go.Abs
open Go Go.Shelf Go.RowKit Go.Proofs
set_option linter.unusedVariables false
section
variable {G : Globs} {C : Ctx}
theorem good_gone {i : Nat} {p : AObj} {w : World} (hg : Good G C) (hp : C.live i p) (hgrow : C.w.grownBy w (C.io i).ownBlock) : Good G ((C.free i).inW w) ∧ Ext C ((C.free i).inW w) := by
  have hne : ∀ b, (b < C.w.heap.size) → (C.io i).ownBlock ≠ some b → w.heap[b]? = C.w.heap[b]? := fun b h1 h2 => hgrow.block b h1 (fun e => h2 e.symm)
  have he : Ext C ((C.free i).inW w) := ⟨hgrow.os, hgrow.tape, hgrow.output, hgrow.size, Nat.le_refl _, rfl, fun b hb => hne b (hg.out b hb) (fun e => hg.own i p hp b e hb), fun j o' hl _ => ⟨o', (free_live hl).2, rfl, rfl, rfl⟩,
    fun b hb => ⟨⟨Nat.lt_of_lt_of_le hb.1 hgrow.size, fun j o' hl => hb.2.1 j o' (free_live hl).2, hb.2.2⟩, hne b hb.1 (hb.2.1 i p hp)⟩⟩
  refine ⟨⟨fun j x hl => ?_, fun j k x y hx hy hij g h1 h2 => hg.apart j k x y (free_live hx).2 (free_live hy).2 hij g h1 h2, fun j x hx g h hF => hg.own j x (free_live hx).2 g h hF, fun b hb => Nat.lt_of_lt_of_le (hg.out b hb) hgrow.size, fun q hq => ?_⟩, he⟩
  · obtain ⟨hne', hl'⟩ := free_live hl
    obtain ⟨a1, a2, a3, ys, a4, a5, a6⟩ := hg.obj j x hl'
    refine ⟨a1, a2, a3, ys, a4.kept hgrow ?_, RepLL.ext he _ _ a5, a6⟩
    show (C.io j).ownBlock = none ∨ _
    cases h : (C.io j).ownBlock with
    | none => exact .inl rfl
    | some g => exact .inr (fun e => hg.apart j i x p hl' hp hne' g h e.symm)
  · obtain ⟨us, b1, b2, b3⟩ := hg.glob q hq
    exact ⟨us, (he.fz _ b1).1, readsG_ext he.fext b1 b2, RepFL.ext he.fext _ _ b3⟩
theorem grownBy_freeze (w : World) (g n : Nat) : w.grownBy (w.drew.freeze ⟨g, 0, none⟩ n) (some g) := by
  unfold World.freeze
  split
  · exact ⟨rfl, rfl, rfl, Nat.le_refl _, fun _ _ _ => rfl⟩
  · refine ⟨rfl, rfl, rfl, by simp, fun k hk hne => ?_⟩
    simp only [Array.getElem?_modify]
    rw [if_neg (fun e => hne (by rw [e]))]
    rfl
end
section
variable {P : Program} {ρ : Ren}
variable {G : Globs}
def bldO (T ver : Nat) (addr : AV) (buf : AV) : AObj := ⟨ver, T, 2, [[addr, buf]]⟩
inductive Self (i ver : Nat) : AV → Prop where
  | nil : Self i ver .nilp
  | at_ : Self i ver (.ptr i ver 0 0)
theorem bld_at {C : Ctx} {T ver : Nat} {addr buf : AV} (hg : Good G C) (hl : C.live 0 (bldO T ver addr buf)) :
    ∃ b cap cur x y, C.io 0 = .slice (some ⟨b, 0, none⟩) 1 cap ∧ C.w.heap[b]? = some (.cells cur T (0, 0)) ∧ cur.size = cap * 2 ∧ 1 ≤ cap ∧ cur[0]? = some x ∧ cur[1]? = some y ∧ RepV C addr x ∧ RepV C buf y := by
  obtain ⟨_, _, _, xs, hown, hrep, _⟩ := hg.obj 0 _ hl
  have hown := hown.row (show 0 < 2 by omega)
  have hrep : RepLL C [[addr, buf]] xs := hrep
  simp only [RepLL, RepL] at hrep
  obtain ⟨p, r, rfl, ⟨x, r1, rfl, hx, y, r2, rfl, hy, rfl⟩, rfl⟩ := hrep
  rcases hown.2 with ⟨_, h2⟩ | ⟨g, cap, cur, h1, _, hgc, hnc, hcm, hcs, htake⟩
  · exact absurd h2 (by simp [bldO])
  · have hnc : 1 ≤ cap := hnc
    have hcs : cur.size = cap * 2 := hcs
    have htake : cur.toList.take 2 = [x, y] := by simpa [bldO] using htake
    refine ⟨g, cap, cur, x, y, h1, hgc, hcs, hnc, ?_, ?_, hx, hy⟩
    · have := congrArg (·[0]?) htake; simpa using this
    · have := congrArg (·[1]?) htake; simpa using this
/-! ### String -/
theorem grownBy_drew (w : World) (r : Option Nat) : w.grownBy w.drew r := ⟨rfl, rfl, rfl, Nat.le_refl _, fun _ _ _ => rfl⟩
theorem grownBy_drew_alloc (w : World) (o : Obj) (r : Option Nat) : w.grownBy (w.drew.alloc o) r := ⟨rfl, rfl, rfl, by simp, fun k hk _ => RowKit.Below.heap_alloc w.drew _ k hk⟩
set_option maxHeartbeats 2000000 in
set_option maxRecDepth 100000 in
theorem String_some (L : Lays.n169 P ρ) (X : Builder.Extra P ρ) (b g cap : Nat) (cur : Array Value) (l : List UInt8) (w : World) (h0 : l ≠ []) (c1 : w.drew.cell? ⟨b, 1, none⟩ = some (.slice (some ⟨g, 0, none⟩) l.length cap)) (hg : w.heap[g]? = some (.cells cur (ρ.t 5) (0, 0)))
    (hnc : l.length ≤ cap) (hcm : cap ≤ maxLen) (hcs : cur.size = cap) (hl : ∀ (j : Nat) (x : UInt8), l[j]? = some x → w.cell? ⟨g, j, none⟩ = some (.int .u8 x.toNat)) :
    Calls P (ρ.f 169) #[.pointer (some ⟨b, 0, none⟩)] w fun e w' => e = .returned (.string ⟨l.toArray⟩) ∧ w' = w.drew.freeze ⟨g, 0, none⟩ l.length := by
  have hl0 : l.length ≠ 0 := by simpa using h0
  have hSD : (Builtin.unsafeSliceData_ #[(ρ.t 37)] (ρ.t 127) #[.slice (some ⟨g, 0, none⟩) l.length cap]).run P w.drew = .ok (.pointer (some ⟨g, 0, none⟩)) w.drew :=
    Lib.run_unsafeSliceData_row _ _ _ _ _ _ (by omega)
  have hUS : (Builtin.unsafeString_ #[(ρ.t 127), (ρ.t 3)] (ρ.t 9) #[.pointer (some ⟨g, 0, none⟩), .int .i64 l.length]).run P w.drew = .ok (.string ⟨l.toArray⟩) (w.drew.freeze ⟨g, 0, none⟩ l.length) := by
    refine Lib.run_unsafeString_row w.drew (ρ.t 127) (ρ.t 3) (ρ.t 9) (ρ.t 5) L.t127 X.cellsByte g cur.size (by have hg' : w.drew.heap[g]? = some (.cells cur (ρ.t 5) (0, 0)) := hg; simp [World.shape?, hg']) l h0 (by omega) (by unfold maxLen at hcm; omega) ?_
    intro j x hx
    rw [Addr.add_lit, Nat.zero_add]
    exact hl j x hx
  have mixed := L.mixed
  have t72 := L.t72; have a72 := L.a72; have z72 := L.z72; have v72 := L.v72; have u72 := run_underlying L.t72
  have t70 := L.t70; have a70 := L.a70; have z70 := L.z70; have v70 := L.v70; have u70 := run_underlying L.t70
  have t37 := L.t37; have a37 := L.a37; have z37 := L.z37; have v37 := L.v37; have u37 := run_underlying L.t37
  have t127 := L.t127; have a127 := L.a127; have z127 := L.z127; have v127 := L.v127; have u127 := run_underlying L.t127
  have t3 := L.t3; have a3 := L.a3; have z3 := L.z3; have v3 := L.v3; have u3 := run_underlying L.t3
  have t9 := L.t9; have a9 := L.a9; have z9 := L.z9; have v9 := L.v9; have u9 := run_underlying L.t9
  have t5 := X.t5; have a5 := X.a5; have z5 := X.z5; have v5 := X.v5; have u5 := run_underlying X.t5
  go_enter L.f169, Body.n169_ntmps ρ
  go_wp2
  go_region_o
  all_goals (go_wp2; go_ret; exact ⟨rfl, rfl⟩)
set_option maxHeartbeats 2000000 in
set_option maxRecDepth 100000 in
theorem String_nil (L : Lays.n169 P ρ) (X : Builder.Extra P ρ) (b : Nat) (w : World) (c1 : w.drew.cell? ⟨b, 1, none⟩ = some (.slice none 0 0)) :
    Calls P (ρ.f 169) #[.pointer (some ⟨b, 0, none⟩)] w fun e w' => e = .returned (.string ⟨#[]⟩) ∧ w' = w.drew := by
  have hUS := Any.unsafeString_none L X
  have hSD : (Builtin.unsafeSliceData_ #[(ρ.t 37)] (ρ.t 127) #[.slice none 0 0]).run P w.drew = .ok (.pointer none) w.drew := rfl
  have mixed := L.mixed
  have t72 := L.t72; have a72 := L.a72; have z72 := L.z72; have v72 := L.v72; have u72 := run_underlying L.t72
  have t70 := L.t70; have a70 := L.a70; have z70 := L.z70; have v70 := L.v70; have u70 := run_underlying L.t70
  have t37 := L.t37; have a37 := L.a37; have z37 := L.z37; have v37 := L.v37; have u37 := run_underlying L.t37
  have t127 := L.t127; have a127 := L.a127; have z127 := L.z127; have v127 := L.v127; have u127 := run_underlying L.t127
  have t3 := L.t3; have a3 := L.a3; have z3 := L.z3; have v3 := L.v3; have u3 := run_underlying L.t3
  have t9 := L.t9; have a9 := L.a9; have z9 := L.z9; have v9 := L.v9; have u9 := run_underlying L.t9
  have t5 := X.t5; have a5 := X.a5; have z5 := X.z5; have v5 := X.v5; have u5 := run_underlying X.t5
  go_enter L.f169, Body.n169_ntmps ρ
  go_wp2
  go_region_o
  all_goals (go_wp2; go_ret; exact ⟨rfl, rfl⟩)
set_option maxHeartbeats 2000000 in
set_option maxRecDepth 100000 in
theorem String_noroom (L : Lays.n169 P ρ) (X : Builder.Extra P ρ) (b g : Nat) (cur : Array Value) (w : World) (hlt : b < w.heap.size) (c1 : w.drew.cell? ⟨b, 1, none⟩ = some (.slice (some ⟨g, 0, none⟩) 0 0)) (hg : w.heap[g]? = some (.cells cur (ρ.t 5) (0, 0))) :
    Calls P (ρ.f 169) #[.pointer (some ⟨b, 0, none⟩)] w fun e w' => e = .returned (.string ⟨#[]⟩) ∧ w' = w.drew.alloc (.view ⟨g, 0, none⟩ (ρ.t 5)) := by
  have hUS := Any.unsafeString_none L X
  have hSD : (Builtin.unsafeSliceData_ #[(ρ.t 37)] (ρ.t 127) #[.slice (some ⟨g, 0, none⟩) 0 0]).run P w.drew = .ok (.pointer (some ⟨w.drew.heap.size, 0, none⟩)) (w.drew.alloc (.view ⟨g, 0, none⟩ (ρ.t 5))) :=
    Lib.run_unsafeSliceData_zero w.drew _ _ (ρ.t 5) L.t127 ⟨g, 0, none⟩ 0 ((ρ.t 5), cur.size) (by have hg' : w.drew.heap[g]? = some (.cells cur (ρ.t 5) (0, 0)) := hg; simp [World.shape?, hg'])
  have c2 : (w.drew.alloc (.view ⟨g, 0, none⟩ (ρ.t 5))).cell? ⟨b, 1, none⟩ = some (.slice (some ⟨g, 0, none⟩) 0 0) := by
    rw [← c1]
    exact World.cell?_of_block (Lib.alloc_old w.drew _ b hlt)
  have c3 : (w.alloc (.view ⟨g, 0, none⟩ (ρ.t 5))).drew.cell? ⟨b, 1, none⟩ = some (.slice (some ⟨g, 0, none⟩) 0 0) := c2
  have c0 : w.cell? ⟨b, 1, none⟩ = some (.slice (some ⟨g, 0, none⟩) 0 0) := c1
  have mixed := L.mixed
  have t72 := L.t72; have a72 := L.a72; have z72 := L.z72; have v72 := L.v72; have u72 := run_underlying L.t72
  have t70 := L.t70; have a70 := L.a70; have z70 := L.z70; have v70 := L.v70; have u70 := run_underlying L.t70
  have t37 := L.t37; have a37 := L.a37; have z37 := L.z37; have v37 := L.v37; have u37 := run_underlying L.t37
  have t127 := L.t127; have a127 := L.a127; have z127 := L.z127; have v127 := L.v127; have u127 := run_underlying L.t127
  have t3 := L.t3; have a3 := L.a3; have z3 := L.z3; have v3 := L.v3; have u3 := run_underlying L.t3
  have t9 := L.t9; have a9 := L.a9; have z9 := L.z9; have v9 := L.v9; have u9 := run_underlying L.t9
  have t5 := X.t5; have a5 := X.a5; have z5 := X.z5; have v5 := X.v5; have u5 := run_underlying X.t5
  go_enter L.f169, Body.n169_ntmps ρ
  go_wp2
  go_region_o
  all_goals (go_wp2; go_ret; exact ⟨rfl, rfl⟩)
set_option maxHeartbeats 2000000 in
set_option maxRecDepth 100000 in
theorem String_room (L : Lays.n169 P ρ) (X : Builder.Extra P ρ) (b g cap : Nat) (w : World) (hc0 : cap ≠ 0) (c1 : w.drew.cell? ⟨b, 1, none⟩ = some (.slice (some ⟨g, 0, none⟩) 0 cap)) :
    Calls P (ρ.f 169) #[.pointer (some ⟨b, 0, none⟩)] w fun e w' => e = .returned (.string ⟨#[]⟩) ∧ w' = w.drew := by
  have hUS := Any.unsafeString_none L X
  have hSD : (Builtin.unsafeSliceData_ #[(ρ.t 37)] (ρ.t 127) #[.slice (some ⟨g, 0, none⟩) 0 cap]).run P w.drew = .ok (.pointer (some ⟨g, 0, none⟩)) w.drew :=
    Lib.run_unsafeSliceData_row _ _ _ _ _ _ hc0
  clear hc0
  have mixed := L.mixed
  have t72 := L.t72; have a72 := L.a72; have z72 := L.z72; have v72 := L.v72; have u72 := run_underlying L.t72
  have t70 := L.t70; have a70 := L.a70; have z70 := L.z70; have v70 := L.v70; have u70 := run_underlying L.t70
  have t37 := L.t37; have a37 := L.a37; have z37 := L.z37; have v37 := L.v37; have u37 := run_underlying L.t37
  have t127 := L.t127; have a127 := L.a127; have z127 := L.z127; have v127 := L.v127; have u127 := run_underlying L.t127
  have t3 := L.t3; have a3 := L.a3; have z3 := L.z3; have v3 := L.v3; have u3 := run_underlying L.t3
  have t9 := L.t9; have a9 := L.a9; have z9 := L.z9; have v9 := L.v9; have u9 := run_underlying L.t9
  have t5 := X.t5; have a5 := X.a5; have z5 := X.z5; have v5 := X.v5; have u5 := run_underlying X.t5
  go_enter L.f169, Body.n169_ntmps ρ
  go_wp2
  go_region_o
  all_goals (go_wp2; go_ret; exact ⟨rfl, rfl⟩)
theorem bytes_of_RepLL' {C : Ctx} : ∀ {l : List UInt8} {us : List Value}, RepLL C (byteEs' l) us → us = l.map fun b => Value.int .u8 (b.toNat : Int)
  | [], us, h => by simpa [byteEs', RepLL] using h
  | b :: l, us, h => by
    simp only [byteEs', List.map_cons, RepLL] at h
    obtain ⟨p, r, rfl, h1, h2⟩ := h
    simp only [RepL, RepV, RepF] at h1
    obtain ⟨u, r', rfl, rfl, rfl⟩ := h1
    rw [bytes_of_RepLL' h2]; rfl
theorem String_does (L : Lays.n169 P ρ) (X : Builder.Extra P ρ) {fn : Func} {c : Code} (hf : P.funcs[ρ.f 169]? = some fn) (hb : fn.body = some c) (hn : (fn.name == "runtime.NumGoroutine") = false)
    {ver rv : Nat} {addr : AV} (l : List UInt8) (rest : AHeap) :
    Does P G (ρ.f 169) [.ptr 0 ver 0 0] (some (bldO (ρ.t 72) ver addr (.sl 1 rv)) :: some ⟨rv, ρ.t 5, 1, byteEs' l⟩ :: rest) fun ae O => ae = .ret (.str l) ∧ O = some (bldO (ρ.t 72) ver addr (.sl 1 rv)) :: none :: rest := by
  intro C cargs hg hs hr
  have hl : C.live 0 (bldO (ρ.t 72) ver addr (.sl 1 rv)) := by unfold Ctx.live; rw [hs]; rfl
  have hl1 : C.live 1 ⟨rv, ρ.t 5, 1, byteEs' l⟩ := by unfold Ctx.live; rw [hs]; rfl
  obtain ⟨b, cap, cur, x, y, hio, hblk, hcs, hcap, hx0, hy1, hx, hy⟩ := bld_at hg hl
  simp only [RepL, RepV] at hr
  obtain ⟨u, r, rfl, ⟨_, hlt, hp⟩, rfl⟩ := hr
  obtain ⟨_, g, hgb, rfl⟩ := hp _ hl rfl
  have hgb' : g = b := by rw [hio] at hgb; simpa [Value.ownBlock] using hgb.symm
  subst hgb'
  have hcall : (callFunc (ρ.f 169) #[.pointer (some ⟨g, 0, none⟩)]).run P C.w = .ok (.enter (ρ.f 169) #[.pointer (some ⟨g, 0, none⟩)]) C.w := by
    have hn' : ¬ fn.name = "runtime.NumGoroutine" := by simpa using hn
    simp [callFunc, hf, hn', hb]
  unfold CallsF
  simp only [Nat.zero_mul, Nat.add_zero]
  rw [hcall]
  simp only [RepV] at hy
  have hyv := (hy.2.2 _ hl1 rfl).2
  subst hyv
  have c1 : C.w.drew.cell? ⟨g, 1, none⟩ = some (C.io 1) := by
    have : C.w.drew.heap[g]? = some (.cells cur (ρ.t 72) (0, 0)) := hblk
    simp [World.cell?, this, hy1]
  have fin : ∀ e w', e = .returned (.string ⟨l.toArray⟩) → C.w.grownBy w' (C.io 1).ownBlock → EndPost G C (some (bldO (ρ.t 72) ver addr (.sl 1 rv)) :: some ⟨rv, ρ.t 5, 1, byteEs' l⟩ :: rest).length (fun ae O => ae = .ret (.str l) ∧ O = some (bldO (ρ.t 72) ver addr (.sl 1 rv)) :: none :: rest) e w' := by
    rintro e w' rfl hgrow
    obtain ⟨k1, k2⟩ := good_gone hg hl1 hgrow
    refine ⟨.ret (.str l), (C.free 1).inW w', rfl, k1, k2, by simp [Ctx.inW, Ctx.free, hs], ⟨rfl, by simp [Ctx.inW, Ctx.free, hs]⟩, ?_⟩
    simp only [REnd, RepV, RepF]
  obtain ⟨_, _, _, xs, hown, hrep, _⟩ := hg.obj 1 _ hl1
  have hown := hown.row (show 0 < 1 by omega)
  have hxs := bytes_of_RepLL' hrep
  have hbl : (byteEs' l).length = l.length := by simp [byteEs']
  rcases hown.2 with ⟨h1, h2⟩ | ⟨g1, cap1, cur1, h1, _, hgc, hnc, hcm, hcs1, htake⟩
  · have hnil : l = [] := List.eq_nil_of_length_eq_zero (by rw [← hbl]; exact h2)
    subst hnil
    rw [h1] at c1
    exact (String_nil L X g C.w c1).mono fun e w' ⟨h3, h4⟩ => fin e w' h3 (by rw [h4]; exact grownBy_drew _ _)
  · simp only [hbl] at h1 hnc htake
    simp only [Nat.mul_one] at hcs1
    have hob : (C.io 1).ownBlock = some g1 := by rw [h1]; rfl
    rw [h1] at c1
    cases l with
    | cons a l' =>
      refine (String_some L X g g1 cap1 cur1 (a :: l') C.w (by simp) c1 hgc hnc hcm hcs1 fun j x hj => ?_).mono fun e w' ⟨h3, h4⟩ => fin e w' h3 (by rw [h4, hob]; exact grownBy_freeze _ _ _)
      have := hown.cells (g := g1) (by rw [h1]; rfl) j (.int .u8 x.toNat) (by rw [hxs, List.getElem?_map, hj]; rfl)
      rw [Addr.add_lit, Nat.zero_add] at this
      exact this
    | nil =>
      by_cases hc0 : cap1 = 0
      · subst hc0
        refine (String_noroom L X g g1 cur1 C.w ?_ c1 hgc).mono fun e w' ⟨h3, h4⟩ => fin e w' h3 (by rw [h4]; exact grownBy_drew_alloc _ _ _)
        exact (Array.getElem?_eq_some_iff.1 hblk).1
      · exact (String_room L X g g1 cap1 C.w hc0 c1).mono fun e w' ⟨h3, h4⟩ => fin e w' h3 (by rw [h4]; exact grownBy_drew _ _)
/-! ### Calls on a builder -/
theorem closedLL_bytes : ∀ l : List UInt8, closedLL (byteEs' l) = true
  | [] => rfl
  | b :: l => by
    have := closedLL_bytes l
    simp only [byteEs'] at this
    simp [byteEs', closedLL, closedL, closed, this]
theorem renO_bytes (js : List Nat) (rv e : Nat) (l : List UInt8) : renO js ⟨rv, e, 1, byteEs' l⟩ = ⟨rv, e, 1, byteEs' l⟩ := by
  simp only [renO, AObj.mk.injEq, true_and]; exact renLL_closed js _ (closedLL_bytes l)
theorem Self.turn {i ver : Nat} {a : AV} (h : Self i ver a) (js : List Nat) (k : Nat) (hk : js[k]? = some i) : ∃ a', Self k ver a' ∧ ren js a' = a := by
  cases h with
  | nil => exact ⟨.nilp, .nil, by simp [ren]⟩
  | at_ => exact ⟨.ptr k ver 0 0, .at_, by simp [ren, hk]⟩
theorem hands_bld {s : AHeap} {i j T v rv e : Nat} {a a' : AV} {l : List UInt8} (hij : i ≠ j) (ha : Self 0 v a') (hr : ren [i, j] a' = a) (hi : s[i]? = some (some (bldO T v a (.sl j rv)))) (hj : s[j]? = some (some ⟨rv, e, 1, byteEs' l⟩)) :
    Hands s [i, j] [some (bldO T v a' (.sl 1 rv)), some ⟨rv, e, 1, byteEs' l⟩] := by
  refine ⟨by simp [hij], rfl, fun k hk => ?_, fun k m hm => ?_, fun o ho => ?_⟩
  · have : k = i ∨ k = j := by simpa using hk
    rcases this with rfl | rfl
    · exact (List.getElem?_eq_some_iff.1 hi).1
    · exact (List.getElem?_eq_some_iff.1 hj).1
  · match k, hm with
    | 0, hm =>
      have : i = m := by simpa using hm
      subst this
      rw [hi]
      simp [renO, bldO, renLL, renL, ren, hr]
    | 1, hm =>
      have : j = m := by simpa using hm
      subst this
      rw [hj]
      simp [renO_bytes]
    | k + 2, hm => simp at hm
  · have : o = bldO T v a' (.sl 1 rv) ∨ o = ⟨rv, e, 1, byteEs' l⟩ := by simpa using ho
    rcases this with rfl | rfl
    · cases ha <;> rfl
    · exact insideLL_closed _ _ (closedLL_bytes l)
section
variable {s : AHeap} {f : FuncId} {K KP : AV → AHeap → Prop}
theorem CallW.bldW {i j T v rv e : Nat} {a r : AV} {x : List AV} {l l' : List UInt8} (hij : i ≠ j) (ha : Self i v a) (hi : s[i]? = Option.some (Option.some (bldO T v a (.sl j rv)))) (hj : s[j]? = Option.some (Option.some ⟨rv, e, 1, byteEs' l⟩))
    (h : ∀ a', Self 0 v a' → Does P G f (.ptr 0 v 0 0 :: x) [Option.some (bldO T v a' (.sl 1 rv)), Option.some ⟨rv, e, 1, byteEs' l⟩] fun ae O => ae = .ret r ∧ ∃ rv', O = [Option.some (bldO T v (.ptr 0 v 0 0) (.sl 1 rv')), Option.some ⟨rv', e, 1, byteEs' l'⟩])
    (hx : closedL x = true) (hr : closed r = true) (k : ∀ rv', setHK s i (bldO T v (.ptr i v 0 0) (.sl j rv')) fun s => setHK s j ⟨rv', e, 1, byteEs' l'⟩ (K r)) : CallW P G f (.ptr i v 0 0 :: x) s K KP := by
  obtain ⟨a', ha', hr'⟩ := ha.turn [i, j] 0 rfl
  refine CallW.ofN [i, j] (h a' ha') (hands_bld hij ha' hr' hi hj) ?_ ?_ ?_
  · simp [renL, ren, renL_closed _ _ hx]
  · simp [insideL, inside, insideL_closed _ _ hx]
  · rintro ae O ⟨rfl, rv', rfl⟩ _
    have := k rv'
    simp only [setHK_eq] at this
    simp only [putR, Option.map_some, renO_bytes, ren_closed _ _ hr]
    simpa [renO, bldO, renLL, renL, ren] using this
theorem CallW.bldS {i j T v rv e : Nat} {a r : AV} {x : List AV} {l : List UInt8} (hij : i ≠ j) (ha : Self i v a) (hi : s[i]? = Option.some (Option.some (bldO T v a (.sl j rv)))) (hj : s[j]? = Option.some (Option.some ⟨rv, e, 1, byteEs' l⟩))
    (h : ∀ a', Self 0 v a' → Does P G f (.ptr 0 v 0 0 :: x) [Option.some (bldO T v a' (.sl 1 rv)), Option.some ⟨rv, e, 1, byteEs' l⟩] fun ae O => ae = .ret r ∧ O = [Option.some (bldO T v a' (.sl 1 rv)), none])
    (hx : closedL x = true) (hr : closed r = true) (k : K r (s.set j none)) : CallW P G f (.ptr i v 0 0 :: x) s K KP := by
  obtain ⟨a', ha', hr'⟩ := ha.turn [i, j] 0 rfl
  refine CallW.ofN [i, j] (h a' ha') (hands_bld hij ha' hr' hi hj) ?_ ?_ ?_
  · simp [renL, ren, renL_closed _ _ hx]
  · simp [insideL, inside, insideL_closed _ _ hx]
  · rintro ae O ⟨rfl, rfl⟩ _
    have e1 : renO [i, j] (bldO T v a' (.sl 1 rv)) = bldO T v a (.sl j rv) := by simp [renO, bldO, renLL, renL, ren, hr']
    have e2 : s.set i (Option.some (bldO T v a (.sl j rv))) = s := by
      obtain ⟨h1, h2⟩ := List.getElem?_eq_some_iff.1 hi
      rw [← h2, List.set_getElem_self]
    simp only [putR, Option.map_some, Option.map_none, ren_closed _ _ hr, e1, e2]
    exact k
end
end
end Go.Abs
/- From a contract of this layer to what a row asks: the law answers true, and all that lay in memory lies there as it did. -/
namespace Go.Abs
open Go
def Ctx.top (W : World) : Ctx := { w := W, s := [], io := fun _ => .nilFunc, N := 0, F := fun _ => False }
theorem top_live {W : World} {i : Nat} {o : AObj} : ¬ (Ctx.top W).live i o := by simp [Ctx.top, Ctx.live]
theorem top_fz {W : World} {b : Nat} (h : b < W.heap.size) : (Ctx.top W).fz b := ⟨h, fun _ _ hl => absurd hl top_live, fun h => h⟩
theorem top_good {G : Globs} {W : World} (h : ∀ p ∈ G, ∃ us, p.1 < W.heap.size ∧ readsG W p.1 p.2.length us ∧ RepFL (Ctx.top W) p.2 us) : Good G (Ctx.top W) :=
  ⟨fun _ _ hl => absurd hl top_live, fun _ _ _ _ hl => absurd hl top_live, fun _ _ hl => absurd hl top_live, fun _ h => h.elim, fun p hp => by
    obtain ⟨us, h1, h2, h3⟩ := h p hp
    exact ⟨us, top_fz h1, h2, h3⟩⟩
theorem Does.law {P : Program} {G : Globs} {f : FuncId} {fn : Func} {c : Code} {args : List AV} {cargs : Array Value} {W : World} (h : Does P G f args [] fun ae _ => ae = .ret (.bool true)) (hf : P.funcs[f]? = some fn) (hb : fn.body = some c)
    (hn : (fn.name == "runtime.NumGoroutine") = false) (hg : Good G (Ctx.top W)) (hr : RepL (Ctx.top W) args cargs.toList) : Calls P f cargs W fun e w' => e = .returned (.bool true) ∧ RowKit.Below W.heap.size W w' := by
  have hn' : ¬ fn.name = "runtime.NumGoroutine" := by simpa using hn
  have hcall : (callFunc f cargs).run P W = .ok (.enter f cargs) W := by simp [callFunc, hf, hn', hb]
  have h1 := h (Ctx.top W) cargs.toList hg rfl hr
  simp only [Array.toArray_toList] at h1
  unfold CallsF at h1
  have h2 : (callFunc f cargs).run P (Ctx.top W).w = .ok (.enter f cargs) W := hcall
  rw [h2] at h1
  refine Calls.mono h1 ?_
  rintro e w' ⟨ae, C', rfl, g1, g2, g3, rfl, g4⟩
  cases e with
  | returned v =>
    simp only [REnd, RepV, RepF] at g4
    subst g4
    exact ⟨rfl, ⟨g2.os, g2.tape, g2.output, g2.size, fun k hk => (g2.fz k (top_fz hk)).2⟩⟩
  | panicked ch => exact g4.elim
  | outgrown => exact g4.elim
end Go.Abs
/- A row's wrap: with what the listed variables read as, and with the world's shape, both. -/
namespace Go.Abs
open Go
variable {H : Type} {enc : TypeId × Value → H}
theorem returns_both {a : Assume} {C : Checked} {os : Os} {f : FuncId} {fn : Func} {s : ChangeSpec} {conds : List PathCond} {apart fresh handsOn again : Bool} {X : World → Array Value → Prop}
    (hX : ∀ (w w' : World) (args : Array Value), w.heap = w'.heap → X w args → X w' args)
    (own : ownKnob C.prog.godebug = none) (started : os.Started) (noInit : C.prog.inits.idxOf? f = none) (hfn : C.prog.funcs[f]? = some fn)
    (witness : ∃ (w : World) (tape : Tape) (i : Input), w.os = os ∧ (w.forCall tape i).Shaped C.prog ∧ i.vars = [] ∧ Input.okWide C.prog (w.forCall tape i) .any w.heap.size f i ∧
      ((s.pre enc C.prog fn conds apart (w.forCall tape i).memory i.args ∧ X (w.forCall tape i).memory i.args) ∧ sizedMet enc C.prog fn (OpenSpec.ofChange s) apart (w.forCall tape i).memory i.args) ∧ a.holds C.prog (lone (Frame.enter C.prog f i.args .normal) [] (w.forCall tape i)))
    (contract : ∀ (W : World) (base : Nat) (args : Array Value) (ds gs : List (DataW H)) (before : List MemPlace),
      (∀ (j : Nat) t v, fn.params[j]? = some t → args[j]? = some v → Value.okWide C.prog W .any base t v) →
      DataW.Whole enc C.prog fn.params.toList s.vars apart W args.toList ds gs before →
      conds.all (PathCond.test C.prog ⟨fn.params.toList, ds, s.plain.varTypes C.prog, gs⟩) = true →
      (DataW.weightsEach C.prog (fn.params.toList ++ s.plain.varTypes C.prog) (ds ++ gs)).all (· ≤ reachBytes) = true → X W args → W.ShapedOpen C.prog →
      a.holds C.prog (lone (Frame.enter C.prog f args .normal) [] W) →
      Calls C.prog f args W fun e W' => ∃ v, e = .returned v ∧ s.post enc C.prog fn apart fresh handsOn again W args v W') :
    ReturnsInHanded a C os f .any (fun w args => (s.pre enc C.prog fn conds apart w args ∧ X w args) ∧ sizedMet enc C.prog fn (OpenSpec.ofChange s) apart w args) (s.post enc C.prog fn apart fresh handsOn again) := by
  refine returnsInHanded_of_calls own started noInit witness ?_
  intro w tape i _ hsh _ hok hpre hholds
  obtain ⟨_, _, _, fn', hfn', _, _, _, _, hval⟩ := hok
  have e : fn' = fn := Option.some.inj (hfn'.symm.trans hfn)
  subst e
  obtain ⟨⟨⟨ds, gs, before, hw, hc⟩, hx⟩, hz⟩ := hpre
  have hw' := DataW.Whole.of_heap (w' := w.forCall tape i) (by rfl) hw
  refine (contract (w.forCall tape i) w.heap.size i.args ds gs before hval hw' hc (hz.weights hw) (hX _ _ _ (by rfl) hx) hsh hholds).mono fun e W' ⟨v, he, hp⟩ => ?_
  subst he
  exact ChangeSpec.post_blind hp
end Go.Abs
/- Steps that a goal of this layer takes by itself: each rule's last premise is proved where the rule is used, by the tactic that stands here once. -/
namespace Go.Abs
open Go
theorem gos {P K : Prop} (k : K) (h : K → P := by intro k; (repeat (first | refine And.intro rfl ?_ | refine Exists.intro _ (And.intro (wrap_i64 (by clear k; first | omega | (simp; done) | (simp; omega)) (by clear k; first | omega | (simp; done) | (simp; omega))) ?_) | refine Exists.intro _ (And.intro rfl ?_) | refine And.intro (fun _ => ?_) (fun h => Bool.noConfusion h) | refine And.intro (fun h => Bool.noConfusion h) (fun _ => ?_) | refine And.intro (And.intro (by decide) (by decide)) ?_ | refine And.intro (And.intro (Nat.le_of_ble_eq_true rfl) (Nat.le_of_ble_eq_true rfl)) ?_ | refine And.intro (And.intro rfl (And.intro rfl (And.intro rfl rfl))) ?_ | refine And.intro (And.intro rfl (And.intro rfl (Nat.le_of_ble_eq_true rfl))) ?_ | refine And.intro (And.intro rfl (And.intro rfl rfl)) ?_ | refine And.intro trivial ?_ | refine CmpW.t rfl ?_ | refine CmpW.f rfl ?_)); exact k) : P := h k
theorem gon {P K : Prop} (k : K) (h : K → P := by intro k; (first | refine And.intro rfl ?_ | refine Exists.intro _ (And.intro (wrap_i64 (by clear k; first | omega | (simp; done) | (simp; omega)) (by clear k; first | omega | (simp; done) | (simp; omega))) ?_) | refine Exists.intro _ (And.intro rfl ?_) | refine And.intro (fun _ => ?_) (fun h => Bool.noConfusion h) | refine And.intro (fun h => Bool.noConfusion h) (fun _ => ?_) | refine And.intro (And.intro (by decide) (by decide)) ?_ | refine And.intro (And.intro (Nat.le_of_ble_eq_true rfl) (Nat.le_of_ble_eq_true rfl)) ?_ | refine And.intro (And.intro rfl (And.intro rfl (And.intro rfl rfl))) ?_ | refine And.intro (And.intro rfl (And.intro rfl (Nat.le_of_ble_eq_true rfl))) ?_ | refine And.intro (And.intro rfl (And.intro rfl rfl)) ?_ | refine And.intro trivial ?_ | refine CmpW.t rfl ?_ | refine CmpW.f rfl ?_); (repeat (first | refine And.intro rfl ?_ | refine Exists.intro _ (And.intro (wrap_i64 (by clear k; first | omega | (simp; done) | (simp; omega)) (by clear k; first | omega | (simp; done) | (simp; omega))) ?_) | refine Exists.intro _ (And.intro rfl ?_) | refine And.intro (fun _ => ?_) (fun h => Bool.noConfusion h) | refine And.intro (fun h => Bool.noConfusion h) (fun _ => ?_) | refine And.intro (And.intro (by decide) (by decide)) ?_ | refine And.intro (And.intro (Nat.le_of_ble_eq_true rfl) (Nat.le_of_ble_eq_true rfl)) ?_ | refine And.intro (And.intro rfl (And.intro rfl (And.intro rfl rfl))) ?_ | refine And.intro (And.intro rfl (And.intro rfl (Nat.le_of_ble_eq_true rfl))) ?_ | refine And.intro (And.intro rfl (And.intro rfl rfl)) ?_ | refine And.intro trivial ?_ | refine CmpW.t rfl ?_ | refine CmpW.f rfl ?_)); exact k) : P := h k
theorem gof {P K : Prop} (k : K) (h : K → P := by intro k; (first | refine And.intro rfl ?_ | refine Exists.intro _ (And.intro (wrap_i64 (by clear k; first | omega | (simp; done) | (simp; omega)) (by clear k; first | omega | (simp; done) | (simp; omega))) ?_) | refine Exists.intro _ (And.intro rfl ?_) | refine And.intro (fun _ => ?_) (fun h => Bool.noConfusion h) | refine And.intro (fun h => Bool.noConfusion h) (fun _ => ?_) | refine And.intro (And.intro (by decide) (by decide)) ?_ | refine And.intro (And.intro (Nat.le_of_ble_eq_true rfl) (Nat.le_of_ble_eq_true rfl)) ?_ | refine And.intro (And.intro rfl (And.intro rfl (And.intro rfl rfl))) ?_ | refine And.intro (And.intro rfl (And.intro rfl (Nat.le_of_ble_eq_true rfl))) ?_ | refine And.intro (And.intro rfl (And.intro rfl rfl)) ?_ | refine And.intro trivial ?_ | refine CmpW.t rfl ?_ | refine CmpW.f rfl ?_ | (refine And.intro (And.intro (fun y hy => by clear k; rcases List.mem_singleton.1 hy with rfl; rfl) (fun y hy => by clear k; rcases List.mem_singleton.1 hy with rfl; rfl)) ?_; refine And.intro (And.intro rfl trivial) ?_) | refine And.intro (And.intro (Nat.le_trans (show _ ≤ 200000 from (by clear k; simp; omega)) (Nat.le_of_ble_eq_true rfl)) (Nat.le_trans (Nat.mul_le_mul_right _ (show _ ≤ 200000 from (by clear k; simp; omega))) (Nat.le_of_ble_eq_true rfl))) ?_); (repeat (first | refine And.intro rfl ?_ | refine Exists.intro _ (And.intro (wrap_i64 (by clear k; first | omega | (simp; done) | (simp; omega)) (by clear k; first | omega | (simp; done) | (simp; omega))) ?_) | refine Exists.intro _ (And.intro rfl ?_) | refine And.intro (fun _ => ?_) (fun h => Bool.noConfusion h) | refine And.intro (fun h => Bool.noConfusion h) (fun _ => ?_) | refine And.intro (And.intro (by decide) (by decide)) ?_ | refine And.intro (And.intro (Nat.le_of_ble_eq_true rfl) (Nat.le_of_ble_eq_true rfl)) ?_ | refine And.intro (And.intro rfl (And.intro rfl (And.intro rfl rfl))) ?_ | refine And.intro (And.intro rfl (And.intro rfl (Nat.le_of_ble_eq_true rfl))) ?_ | refine And.intro (And.intro rfl (And.intro rfl rfl)) ?_ | refine And.intro trivial ?_ | refine CmpW.t rfl ?_ | refine CmpW.f rfl ?_ | (refine And.intro (And.intro (fun y hy => by clear k; rcases List.mem_singleton.1 hy with rfl; rfl) (fun y hy => by clear k; rcases List.mem_singleton.1 hy with rfl; rfl)) ?_; refine And.intro (And.intro rfl trivial) ?_) | refine And.intro (And.intro (Nat.le_trans (show _ ≤ 200000 from (by clear k; simp; omega)) (Nat.le_of_ble_eq_true rfl)) (Nat.le_trans (Nat.mul_le_mul_right _ (show _ ≤ 200000 from (by clear k; simp; omega))) (Nat.le_of_ble_eq_true rfl))) ?_)); exact k) : P := h k
theorem gobnd {P K : Prop} (k : K) (h : K → P := by intro k; refine And.intro (And.intro (Nat.le_trans (show _ ≤ 200000 from (by clear k; simp; omega)) (Nat.le_of_ble_eq_true rfl)) (Nat.le_trans (Nat.mul_le_mul_right _ (show _ ≤ 200000 from (by clear k; simp; omega))) (Nat.le_of_ble_eq_true rfl))) ?_; exact k) : P := h k
theorem ar {p : Prop} (h : p := by first | omega | (simp; done) | (simp; omega) | (simp at *; omega)) : p := h
theorem CmpW.T {b : Bool} {K : Bool → Prop} (k : K true) (h : b = true := by first | omega | (simp; done) | (simp; omega) | (simp at *; omega)) : CmpW b K := CmpW.t h k
theorem CmpW.N {b : Bool} {K : Bool → Prop} (k : K false) (h : b = false := by first | omega | (simp; done) | (simp; omega) | (simp at *; omega)) : CmpW b K := CmpW.f h k
theorem DrawW.L {P : Program} {G : Globs} {T : TT} {ops : List Oper} {K : Env → AHeap → Prop} {KP : AV → AHeap → Prop} {e : Env} {s : AHeap} (h : wpo P G T ops K KP ops e s)
    (h1 : linOK T ops.toArray (Array.replicate ops.length false) (List.range' 0 ops.length) = true := by kernel_rfl) (h2 : Region.noSelect ops.toArray = true := by kernel_rfl) : DrawW P G T ops K KP e s := DrawW.lex h1 h2 h
theorem DrawW.P {P : Program} {G : Globs} {T : TT} {ops : List Oper} {K : Env → AHeap → Prop} {KP : AV → AHeap → Prop} {e : Env} {s : AHeap} (p : Plan) (h : wpPlan P G T ops K KP p e s)
    (h1 : planOK T ops.toArray ops.length (Array.replicate ops.length false) p = true := by kernel_rfl) (h2 : Region.noSelect ops.toArray = true := by kernel_rfl) : DrawW P G T ops K KP e s := DrawW.plan p h1 h2 h
theorem fgts {a b : Env} (h : Fgt a b := by (repeat (first | exact Fgt.nil | refine Fgt.keep ?_ | refine Fgt.drop ?_))) : Fgt a b := h
end Go.Abs
/- Code, piece by piece, without its being computed through at once. -/
namespace Go.Abs
open Go
section
variable {P : Program} {G : Globs} {T : TT} {a b : Code} {Q : AQ} {e : Env} {s : AHeap}
theorem AC.blk {id : Nat} (h : AC P G b (blockQ id Q) e s) : AC P G (.block id b) Q e s := fun ds C0 C x hf hs => by
  refine wp_block (wp_mono (h ds C0 C x hf hs) ?_)
  rintro x' a' w' ⟨C', rfl, g1, g2, g3, g4⟩
  cases x' with
  | normal => exact ⟨C', rfl, g1, g2, g3, g4⟩
  | exit i =>
    obtain ⟨e', g5, g6⟩ := g4
    have g6 : (match Nat.beq i id with | true => Q .normal e' C'.s | false => Q (.exit i) e' C'.s : Prop) := g6
    by_cases hi : i = id
    · subst hi
      simp only [Nat.beq_refl] at g6
      simp only [Exit.inBlock, if_true]
      exact ⟨C', rfl, g1, g2, g3, e', g5, g6⟩
    · have hb : Nat.beq i id = false := by cases hq : Nat.beq i id with
        | true => exact absurd (Nat.eq_of_beq_eq_true hq) hi
        | false => rfl
      simp only [hb] at g6
      simp only [Exit.inBlock, hi, if_false]
      exact ⟨C', rfl, g1, g2, g3, e', g5, g6⟩
  | goto l => exact ⟨C', rfl, g1, g2, g3, g4⟩
  | ret => exact ⟨C', rfl, g1, g2, g3, g4⟩
  | panic c => exact ⟨C', rfl, g1, g2, g3, g4⟩
  | outgrown => exact ⟨C', rfl, g1, g2, g3, g4⟩
theorem AC.seqA (h : AC P G a (thenQ (fun e s => AC P G b Q e s) Q) e s) : AC P G (.seq a b) Q e s := fun ds C0 C x hf hs => by
  refine wp_seq (wp_mono (h ds C0 C x hf hs) ?_)
  rintro x' a' w' ⟨C', rfl, g1, g2, g3, g4⟩
  cases x' with
  | normal =>
    obtain ⟨e', g5, g6⟩ := g4
    exact g6 ds C0 C' a' ⟨g1, g5, g3, g2⟩ rfl
  | exit id => exact ⟨C', rfl, g1, g2, g3, g4⟩
  | goto l => exact ⟨C', rfl, g1, g2, g3, g4⟩
  | ret => exact ⟨C', rfl, g1, g2, g3, g4⟩
  | panic c => exact ⟨C', rfl, g1, g2, g3, g4⟩
  | outgrown => exact ⟨C', rfl, g1, g2, g3, g4⟩
theorem AC.fgt {e' : Env} (k : Nat) (h : Fgt e e') (hA : AC P G a Q e' (s.take k)) : AC P G a Q e s := fun ds C0 C x hf hs => by
  have h1 := hA ds C0 (C.cut k) x ⟨good_cut hf.good k, RepL.ext (ext_cut k) _ _ (h.rep hf.rep), hf.defers, hf.ext.trans (ext_cut k)⟩ (by rw [← hs]; rfl)
  exact h1
theorem AC.cutA (I : Env → AHeap → Prop) (ha : AC P G a (thenQ (fun e s => ∃ e' k, Fgt e e' ∧ I e' (s.take k)) Q) e s) (hb : ∀ e s, I e s → AC P G b Q e s) : AC P G (.seq a b) Q e s := fun ds C0 C x hf hs => by
  refine wp_seq (wp_mono (ha ds C0 C x hf hs) ?_)
  rintro x' a' w' ⟨C', rfl, g1, g2, g3, g4⟩
  cases x' with
  | normal =>
    obtain ⟨e', g5, e'', k, g6, g7⟩ := g4
    exact (AC.fgt k g6 (hb _ _ g7)) ds C0 C' a' ⟨g1, g5, g3, g2⟩ rfl
  | exit id => exact ⟨C', rfl, g1, g2, g3, g4⟩
  | goto l => exact ⟨C', rfl, g1, g2, g3, g4⟩
  | ret => exact ⟨C', rfl, g1, g2, g3, g4⟩
  | panic c => exact ⟨C', rfl, g1, g2, g3, g4⟩
  | outgrown => exact ⟨C', rfl, g1, g2, g3, g4⟩
theorem AC.condA {c : Operand} (h : evK G e c fun v => match v with | .bool t => (t = true → AC P G a Q e s) ∧ (t = false → AC P G b Q e s) | _ => False) : AC P G (.cond c a b) Q e s := fun ds C0 C x hf hs => by
  obtain ⟨av, h1, h⟩ := evK_ok hf.good hf.rep h
  split at h
  · rename_i t
    simp only [RepV, RepF] at h1
    refine wp_cond h1 ?_
    cases t
    · exact h.2 rfl ds C0 C x hf hs
    · exact h.1 rfl ds C0 C x hf hs
  · exact h.elim
theorem AC.loopA (I : Nat → Env → AHeap → Prop) (n : Nat) (h0 : ∃ e', Fgt e e' ∧ I n e' s)
    (round : ∀ n e s, I n e s → AC P G b (thenQ (fun e' s' => ∃ m e'' k, m < n ∧ Fgt e' e'' ∧ I m e'' (s'.take k)) Q) e s) : AC P G (.loop b) Q e s := by
  obtain ⟨e0, hw0, h0⟩ := h0
  intro ds C0 C a hf hs
  refine wp_loop_ghost (fun n a w => ∃ C e, Fits G C0 ds C e a ∧ C.w = w ∧ I n e C.s) n ⟨C, e0, ⟨hf.good, hw0.rep hf.rep, hf.defers, hf.ext⟩, rfl, by rw [hs]; exact h0⟩ ?_
  rintro n a w ⟨C, e, hf, rfl, hI⟩
  refine wp_mono (round n e C.s hI ds C0 C a hf rfl) ?_
  rintro x' a' w' ⟨C', rfl, g1, g2, g3, g4⟩
  cases x' with
  | normal =>
    obtain ⟨e', g5, m, e'', k, g6, g7, g8⟩ := g4
    exact ⟨m, g6, C'.cut k, e'', ⟨good_cut g1 k, RepL.ext (ext_cut k) _ _ (g7.rep g5), g3, g2.trans (ext_cut k)⟩, rfl, g8⟩
  | exit id => exact ⟨C', rfl, g1, g2, g3, g4⟩
  | goto l => exact ⟨C', rfl, g1, g2, g3, g4⟩
  | ret => exact ⟨C', rfl, g1, g2, g3, g4⟩
  | panic c => exact ⟨C', rfl, g1, g2, g3, g4⟩
  | outgrown => exact ⟨C', rfl, g1, g2, g3, g4⟩
end
end Go.Abs
/- A row that a cell of another object names is given up, and read from then on. -/
namespace Go.Abs
open Go
section
variable {G : Globs} {C : Ctx}
theorem RepLL.setC {C C' : Ctx} (he : Ext C C') : ∀ {es : List (List AV)} {xs : List Value} {n : Nat} {cs cs' : List AV}, RepLL C es xs → es[n]? = some cs → (∀ us, RepL C cs us → RepL C' cs' us) → RepLL C' (es.set n cs') xs
  | [], xs, n, cs, cs', h, hn, _ => by simp at hn
  | x :: es, xs, n, cs, cs', h, hn, hk => by
    simp only [RepLL] at h
    obtain ⟨p, r, rfl, h1, h2⟩ := h
    cases n with
    | zero =>
      simp only [List.getElem?_cons_zero, Option.some.injEq] at hn
      subst hn
      simp only [List.set_cons_zero, RepLL]
      exact ⟨p, r, rfl, hk p h1, RepLL.ext he _ _ h2⟩
    | succ n =>
      simp only [List.set_cons_succ, RepLL]
      exact ⟨p, r, rfl, RepL.ext he _ _ h1, RepLL.setC he h2 (by simpa using hn) hk⟩
theorem good_cell {i j n k : Nat} {o : AObj} {cs : List AV} {a a' : AV} (hg : Good G C) (hl : C.live j o) (hij : j ≠ i) (he : o.es[n]? = some cs) (hk : cs[k]? = some a) (hr : ∀ u, RepV C a u → RepV (C.free i) a' u) :
    Good G ((C.free i).see j { o with es := o.es.set n (cs.set k a') }) ∧ Ext C ((C.free i).see j { o with es := o.es.set n (cs.set k a') }) := by
  obtain ⟨o', ho'⟩ : ∃ o' : AObj, o' = { o with es := o.es.set n (cs.set k a') } := ⟨_, rfl⟩
  rw [← ho']
  have hv : o'.ver = o.ver := by rw [ho']
  have ht : o'.t = o.t := by rw [ho']
  have hz : o'.sz = o.sz := by rw [ho']
  have hlen : o'.es.length = o.es.length := by rw [ho']; simp
  have hlv : (C.free i).live j o := by
    unfold Ctx.live Ctx.free
    rw [List.getElem?_set_ne (fun e => hij e.symm)]; exact hl
  have e1 : Ext (C.free i) ((C.free i).see j o') := ⟨rfl, rfl, rfl, Nat.le_refl _, Nat.le_refl _, rfl, fun _ _ => rfl, fun q x hx _ => by
    rcases see_live hx with ⟨rfl, rfl⟩ | ⟨_, hx⟩
    · exact ⟨o, hlv, hv.symm, hz.symm, rfl⟩
    · exact ⟨x, hx, rfl, rfl, rfl⟩,
   fun b hb => ⟨⟨hb.1, fun q x hx => by
    rcases see_live hx with ⟨rfl, rfl⟩ | ⟨_, hx⟩
    · exact hb.2.1 _ o hlv
    · exact hb.2.1 q x hx, hb.2.2⟩, rfl⟩⟩
  have ee : Ext C ((C.free i).see j o') := (ext_free i).trans e1
  have g1 := good_free hg i
  obtain ⟨a1, a2, a3, ys, a4, a5, a6⟩ := hg.obj j o hl
  have hrep : RepLL ((C.free i).see j o') o'.es ys := by
    have h1 : RepLL (C.free i) o'.es ys := by
      rw [ho']
      refine RepLL.setC (ext_free i) a5 he fun us hu => RepL.setV' (ext_free i) hu fun b u hb hu => ?_
      rw [hk] at hb
      simp only [Option.some.injEq] at hb
      subst hb
      exact hr u hu
    exact RepLL.ext e1 _ _ h1
  refine ⟨⟨fun q x hx => ?_, fun q r x y hx hy => ?_, fun q x hx => ?_, g1.out, fun p hp => ?_⟩, ee⟩
  · rcases see_live hx with ⟨rfl, rfl⟩ | ⟨_, hx⟩
    · refine ⟨by rw [hv]; exact a1, by rw [hz]; exact a2, fun e hm => ?_, ys, by rw [ht, hz, hlen]; exact a4, hrep, a6⟩
      rw [ho'] at hm
      rcases List.mem_or_eq_of_mem_set hm with hm | rfl
      · rw [hz]; exact a3 e hm
      · rw [List.length_set, hz]; exact a3 cs (List.mem_of_getElem? he)
    · obtain ⟨b1, b2, b3, zs, b4, b5, b6⟩ := g1.obj q x hx
      exact ⟨b1, b2, b3, zs, b4, RepLL.ext e1 _ _ b5, b6⟩
  · have up : ∀ {q : Nat} {x : AObj}, ((C.free i).see j o').live q x → ∃ y, (C.free i).live q y := fun {q x} h => by
      rcases see_live h with ⟨rfl, rfl⟩ | ⟨_, h⟩
      · exact ⟨o, hlv⟩
      · exact ⟨x, h⟩
    obtain ⟨x', hx'⟩ := up hx
    obtain ⟨y', hy'⟩ := up hy
    exact g1.apart q r x' y' hx' hy'
  · rcases see_live hx with ⟨rfl, rfl⟩ | ⟨_, hx⟩
    · exact g1.own _ o hlv
    · exact g1.own q x hx
  · obtain ⟨us, b1, b2, b3⟩ := g1.glob p hp
    exact ⟨us, (e1.fz _ b1).1, readsG_ext e1.fext b1 b2, RepFL.ext e1.fext _ _ b3⟩
theorem AC.rowC {P : Program} {c : Code} {Q : AQ} {e : Env} {s : AHeap} (i j n k : Nat) {ver : Nat} {o oi : AObj} {cs : List AV} (hj : s[j]? = some (some o)) (hi : s[i]? = some (some oi)) (hij : j ≠ i) (he : o.es[n]? = some cs) (hk : cs[k]? = some (.sl i ver)) (hv : oi.ver = ver) (hc : closedLL oi.es = true)
    (h : AC P G c Q e ((s.set i none).set j (some { o with es := o.es.set n (cs.set k (.fsl oi.es)) }))) : AC P G c Q e s := by
  intro ds C0 C a hf hs
  subst hs
  obtain ⟨k1, k2⟩ := good_cell (a' := .fsl oi.es) hf.good hj hij he hk (fun u hu => RepV.freeze hf.good hi hv hc hu)
  exact h ds C0 ((C.free i).see j { o with es := o.es.set n (cs.set k (.fsl oi.es)) }) a ⟨k1, RepL.ext k2 _ _ hf.rep, hf.defers, hf.ext.trans k2⟩ rfl
theorem AC.nilC {P : Program} {c : Code} {Q : AQ} {e : Env} {s : AHeap} (j n k : Nat) {o : AObj} {cs : List AV} (hj : s[j]? = some (some o)) (he : o.es[n]? = some cs) (hk : cs[k]? = some .nils)
    (h : AC P G c Q e (s.set j (some { o with es := o.es.set n (cs.set k (.fsl [])) }))) : AC P G c Q e s := by
  intro ds C0 C a hf hs
  subst hs
  have hl : j < C.s.length := (List.getElem?_eq_some_iff.1 hj).1
  obtain ⟨k1, k2⟩ := good_cell (i := C.s.length) (a' := .fsl []) hf.good hj (by omega) he hk (fun u hu => by
    simp only [RepV, RepF] at hu ⊢
    subst hu
    exact ⟨none, 0, Nat.le_refl _, rfl, .inl (by simp)⟩)
  refine h ds C0 ((C.free C.s.length).see j { o with es := o.es.set n (cs.set k (.fsl [])) }) a ⟨k1, RepL.ext k2 _ _ hf.rep, hf.defers, hf.ext.trans k2⟩ ?_
  show (C.s.set C.s.length none).set j _ = C.s.set j _
  rw [List.set_eq_of_length_le (Nat.le_refl _)]
theorem AC.boxC {P : Program} {c : Code} {Q : AQ} {e : Env} {s : AHeap} (i j n k : Nat) {ver : Nat} {o oi : AObj} {cs ci : List AV} (hj : s[j]? = some (some o)) (hi : s[i]? = some (some oi)) (hij : j ≠ i) (he : o.es[n]? = some cs) (hk : cs[k]? = some (.ptr i ver 0 0)) (hv : oi.ver = ver) (hei : oi.es = [ci]) (hc : closedLL oi.es = true)
    (h : AC P G c Q e ((s.set i none).set j (some { o with es := o.es.set n (cs.set k (.fptr ci)) }))) : AC P G c Q e s := by
  intro ds C0 C a hf hs
  subst hs
  obtain ⟨k1, k2⟩ := good_cell (a' := .fptr ci) hf.good hj hij he hk (fun u hu => RepV.freezeP hf.good hi hv hei hc hu)
  exact h ds C0 ((C.free i).see j { o with es := o.es.set n (cs.set k (.fptr ci)) }) a ⟨k1, RepL.ext k2 _ _ hf.rep, hf.defers, hf.ext.trans k2⟩ rfl
theorem AC.mapC {P : Program} {c : Code} {Q : AQ} {e : Env} {s : AHeap} (i j n k : Nat) {ver : Nat} {o oi : AObj} {cs : List AV} (hj : s[j]? = some (some o)) (hi : s[i]? = some (some oi)) (hij : j ≠ i) (he : o.es[n]? = some cs) (hk : cs[k]? = some (.mp i ver)) (hv : oi.ver = ver) (hc : closedLL oi.es = true)
    (h : AC P G c Q e ((s.set i none).set j (some { o with es := o.es.set n (cs.set k (.fmap oi.es)) }))) : AC P G c Q e s := by
  intro ds C0 C a hf hs
  subst hs
  obtain ⟨k1, k2⟩ := good_cell (a' := .fmap oi.es) hf.good hj hij he hk (fun u hu => RepV.freezeM hf.good hi hv hc hu)
  exact h ds C0 ((C.free i).see j { o with es := o.es.set n (cs.set k (.fmap oi.es)) }) a ⟨k1, RepL.ext k2 _ _ hf.rep, hf.defers, hf.ext.trans k2⟩ rfl
end
section
variable {P : Program} {G : Globs}
theorem Does.more {x : Nat × List AV} {f : FuncId} {xs : List AV} {O : AHeap} {Q : AEnd → AHeap → Prop} (h : Does P G f xs O Q) : Does P (x :: G) f xs O Q := by
  intro C cargs hg hs hr
  have hg' : Good G C := ⟨hg.obj, hg.apart, hg.own, hg.out, fun p hp => hg.glob p (List.mem_cons_of_mem _ hp)⟩
  refine CallsF.mono ?_ (h C cargs hg' hs hr)
  rintro e w ⟨ae, C', h1, h2, h3, h4, h5, h6⟩
  refine ⟨ae, C', h1, ⟨h2.obj, h2.apart, h2.own, h2.out, fun p hp => ?_⟩, h3, h4, h5, h6⟩
  rcases List.mem_cons.1 hp with rfl | hp
  · obtain ⟨us, b1, b2, b3⟩ := hg.glob p (by simp)
    exact ⟨us, (h3.fz _ b1).1, readsG_ext h3.fext b1 b2, RepFL.ext h3.fext _ _ b3⟩
  · exact h2.glob p hp
end
end Go.Abs
namespace Go.Abs
open Go
theorem Does.wkA {P : Program} {G : Globs} {f : FuncId} {ls ls' : List AV} {O : AHeap} {Q : AEnd → AHeap → Prop} (h : Does P G f ls' O Q) (hw : ∀ C us, RepL C ls us → RepL C ls' us) : Does P G f ls O Q := fun C cargs hg hs hr => h C cargs hg hs (hw C cargs hr)
def unnil : AV → AV
  | .nils => .fsl []
  | a => a
theorem unnil_rep {C : Ctx} {a : AV} {u : Value} (h : RepV C a u) : RepV C (unnil a) u := by
  unfold unnil
  split
  · simp only [RepV, RepF] at h ⊢
    subst h
    exact ⟨none, 0, Nat.le_refl _, rfl, .inl (by simp)⟩
  · exact h
theorem unnil_repL {C : Ctx} : ∀ {ls : List AV} {us : List Value}, RepL C ls us → RepL C (ls.map unnil) us
  | [], us, h => h
  | a :: ls, us, h => by
    simp only [RepL] at h
    obtain ⟨u, r, rfl, h1, h2⟩ := h
    simp only [List.map_cons, RepL]
    exact ⟨u, r, rfl, unnil_rep h1, unnil_repL h2⟩
theorem unnil_agg {C : Ctx} {cs : List AV} {us : List Value} (h : RepL C [.agg cs] us) : RepL C [.agg (cs.map unnil)] us := by
  simp only [RepL, RepV] at h ⊢
  obtain ⟨u, r, rfl, ⟨xs, rfl, h1⟩, rfl⟩ := h
  exact ⟨_, [], rfl, ⟨xs, rfl, unnil_repL h1⟩, rfl⟩
theorem unnil_repLL {C : Ctx} : ∀ {es : List (List AV)} {us : List Value}, RepLL C es us → RepLL C (es.map fun e => e.map unnil) us
  | [], us, h => h
  | e :: es, us, h => by
    simp only [RepLL] at h
    obtain ⟨p, r, rfl, h1, h2⟩ := h
    simp only [List.map_cons, RepLL]
    exact ⟨p, r, rfl, unnil_repL h1, unnil_repLL h2⟩
theorem AC.unnilC {P : Program} {G : Globs} {c : Code} {Q : AQ} {e : Env} {s : AHeap} (j : Nat) {o : AObj} (hj : s[j]? = some (some o)) (h : AC P G c Q e (s.set j (some { o with es := o.es.map fun e => e.map unnil }))) : AC P G c Q e s := by
  intro ds C0 C a hf hs
  subst hs
  obtain ⟨_, _, h3, _⟩ := hf.good.obj j o hj
  obtain ⟨k1, k2⟩ := good_see (o' := { o with es := o.es.map fun e => e.map unnil }) hf.good hj rfl rfl rfl (by simp) (fun x hx => by
    obtain ⟨y, hy, rfl⟩ := List.mem_map.1 hx
    rw [List.length_map]
    exact h3 y hy) (fun xs hx => unnil_repLL hx)
  exact h ds C0 (C.see j { o with es := o.es.map fun e => e.map unnil }) a ⟨k1, RepL.ext k2 _ _ hf.rep, hf.defers, hf.ext.trans k2⟩ rfl
end Go.Abs
/- Slots that are kept: all others are forgotten. -/
namespace Go.Abs
open Go
def keepFrom (ks : List Nat) : Nat → Env → Env
  | _, [] => []
  | n, a :: e => (match ks.elem n with | true => a | false => .any) :: keepFrom ks (n + 1) e
def keepE (ks : List Nat) (e : Env) : Env := keepFrom ks 0 e
theorem keepFrom_fgt (ks : List Nat) : ∀ (n : Nat) (e : Env), Fgt e (keepFrom ks n e)
  | _, [] => rfl
  | n, a :: e => by
    unfold keepFrom
    cases ks.elem n
    · exact Fgt.drop (keepFrom_fgt ks (n + 1) e)
    · exact Fgt.keep (keepFrom_fgt ks (n + 1) e)
theorem AC.keep {P : Program} {G : Globs} {c : Code} {Q : AQ} {e : Env} {s : AHeap} (ks : List Nat) (k : Nat) (h : AC P G c Q (keepE ks e) (s.take k)) : AC P G c Q e s := AC.fgt k (keepFrom_fgt ks 0 e) h
end Go.Abs
/- A row that is made in a call is handed to the caller: it goes to a place that the caller keeps free. -/
namespace Go.Abs
open Go
section
variable {G : Globs} {C : Ctx}
def Ctx.slot (C : Ctx) : Ctx := { C with s := C.s ++ [none] }
theorem slot_live {i : Nat} {o : AObj} : C.slot.live i o ↔ C.live i o := by
  unfold Ctx.live Ctx.slot
  simp only
  rcases Nat.lt_trichotomy i C.s.length with h | h | h
  · rw [List.getElem?_append_left h]
  · subst h; simp
  · rw [List.getElem?_append_right (by omega), List.getElem?_eq_none (by simp; omega), List.getElem?_eq_none (by omega)]
theorem ext_slot : Ext C C.slot :=
  ⟨rfl, rfl, rfl, Nat.le_refl _, Nat.le_refl _, rfl, fun _ _ => rfl, fun i o h _ => ⟨o, slot_live.1 h, rfl, rfl, rfl⟩, fun b hb => ⟨⟨hb.1, fun i o h => hb.2.1 i o (slot_live.1 h), hb.2.2⟩, rfl⟩⟩
theorem good_slot (hg : Good G C) : Good G C.slot := by
  refine ⟨fun i o h => ?_, fun i j x y hx hy => hg.apart i j x y (slot_live.1 hx) (slot_live.1 hy), fun i x hx => hg.own i x (slot_live.1 hx), hg.out, fun p hp => ?_⟩
  · obtain ⟨a1, a2, a3, ys, a4, a5, a6⟩ := hg.obj i o (slot_live.1 h)
    exact ⟨a1, a2, a3, ys, a4, RepLL.ext ext_slot _ _ a5, a6⟩
  · obtain ⟨us, b1, b2, b3⟩ := hg.glob p hp
    exact ⟨us, (ext_slot.fz _ b1).1, readsG_ext ext_slot.fext b1 b2, RepFL.ext ext_slot.fext _ _ b3⟩
theorem AC.slot {P : Program} {c : Code} {Q : AQ} {e : Env} {s : AHeap} (h : AC P G c Q e (s ++ [none])) : AC P G c Q e s := by
  intro ds C0 C a hf hs
  subst hs
  exact h ds C0 C.slot a ⟨good_slot hf.good, RepL.ext ext_slot _ _ hf.rep, hf.defers, hf.ext.trans ext_slot⟩ rfl
def Ctx.move (C : Ctx) (k j : Nat) (o : AObj) : Ctx := { C with s := (C.s.set k none).set j (some { o with ver := C.N }), io := fun i => if i = j then C.io k else C.io i, N := C.N + 1 }
theorem move_live {k j i : Nat} {o x : AObj} (h : (C.move k j o).live i x) : (i = j ∧ x = { o with ver := C.N } ∧ (C.move k j o).io i = C.io k) ∨ (i ≠ j ∧ i ≠ k ∧ C.live i x ∧ (C.move k j o).io i = C.io i) := by
  by_cases hij : i = j
  · subst hij
    refine .inl ⟨rfl, ?_, by simp [Ctx.move]⟩
    simp only [Ctx.live, Ctx.move, List.getElem?_set, if_true] at h
    split at h
    · simp only [Option.some.injEq] at h
      exact h.symm
    · cases h
  · refine .inr ⟨hij, ?_⟩
    simp only [Ctx.live, Ctx.move] at h
    rw [List.getElem?_set_ne (fun e => hij e.symm)] at h
    by_cases hik : i = k
    · subst hik
      rw [List.getElem?_set_self'] at h
      cases hs : C.s[i]? <;> simp [hs] at h
    · rw [List.getElem?_set_ne (fun e => hik e.symm)] at h
      exact ⟨hik, h, by simp [Ctx.move, hij]⟩
theorem ext_move {k j : Nat} {o : AObj} (hk : C.live k o) : Ext C (C.move k j o) :=
  ⟨rfl, rfl, rfl, Nat.le_refl _, Nat.le_succ _, rfl, fun _ _ => rfl, fun i x h hv => by
    rcases move_live h with ⟨rfl, rfl, _⟩ | ⟨_, _, h1, h2⟩
    · simp only at hv; omega
    · exact ⟨x, h1, rfl, rfl, h2⟩,
   fun b hb => ⟨⟨hb.1, fun i x h => by
    rcases move_live h with ⟨rfl, rfl, e⟩ | ⟨_, _, h1, e⟩
    · rw [e]; exact hb.2.1 k o hk
    · rw [e]; exact hb.2.1 i x h1, hb.2.2⟩, rfl⟩⟩
theorem good_move {k j : Nat} {o : AObj} (hg : Good G C) (hk : C.live k o) : Good G (C.move k j o) := by
  have he := ext_move (C := C) (j := j) hk
  refine ⟨fun i x h => ?_, fun i l x y hx hy hil => ?_, fun i x hx => ?_, hg.out, fun p hp => ?_⟩
  · rcases move_live h with ⟨rfl, rfl, e⟩ | ⟨_, _, h1, e⟩
    · obtain ⟨a1, a2, a3, ys, a4, a5, a6⟩ := hg.obj k o hk
      exact ⟨Nat.lt_succ_self _, a2, a3, ys, by rw [e]; exact a4, RepLL.ext he _ _ a5, a6⟩
    · obtain ⟨a1, a2, a3, ys, a4, a5, a6⟩ := hg.obj i x h1
      exact ⟨Nat.lt_succ_of_lt a1, a2, a3, ys, by rw [e]; exact a4, RepLL.ext he _ _ a5, a6⟩
  · rcases move_live hx with ⟨rfl, rfl, e⟩ | ⟨n1, n2, h1, e⟩
    · rcases move_live hy with ⟨rfl, rfl, e'⟩ | ⟨m1, m2, h2, e'⟩
      · exact absurd rfl hil
      · rw [e, e']; exact hg.apart k l o y hk h2 (fun q => m2 q.symm)
    · rcases move_live hy with ⟨rfl, rfl, e'⟩ | ⟨m1, m2, h2, e'⟩
      · rw [e, e']; exact hg.apart i k x o h1 hk n2
      · rw [e, e']; exact hg.apart i l x y h1 h2 hil
  · rcases move_live hx with ⟨rfl, rfl, e⟩ | ⟨n1, n2, h1, e⟩
    · rw [e]; exact hg.own k o hk
    · rw [e]; exact hg.own i x h1
  · obtain ⟨us, b1, b2, b3⟩ := hg.glob p hp
    exact ⟨us, (he.fz _ b1).1, readsG_ext he.fext b1 b2, RepFL.ext he.fext _ _ b3⟩
theorem move_sl {k j : Nat} {o : AObj} (hk : C.live k o) {v : Value} (hr : RepV C (.sl k o.ver) v) : RepV (C.move k j o) (.sl j C.N) v := by
  simp only [RepV] at *
  refine ⟨hr.1, Nat.lt_succ_self _, fun x hx hv => ?_⟩
  rcases move_live hx with ⟨_, rfl, e⟩ | ⟨n1, _⟩
  · rw [e]; exact hr.2.2 o hk rfl
  · exact absurd rfl n1
theorem RetW.move {n j k ver : Nat} {Q : AEnd → AHeap → Prop} {s : AHeap} {o : AObj} (hn : n ≤ s.length) (hk : s[k]? = some (some o)) (hv : o.ver = ver)
    (h : ∀ N, Q (.ret (.sl j N)) (((s.set k none).set j (some { o with ver := N })).take n)) : RetW G n Q (.sl k ver) s :=
  ⟨hn, fun C u hg hs hr => by
    subst hs
    subst hv
    exact ⟨.sl j C.N, C.move k j o, rfl, good_move hg hk, ext_move hk, by simp [Ctx.move], move_sl hk hr, h C.N⟩⟩
theorem move_ptr {k j : Nat} {o : AObj} (hk : C.live k o) {a b : Nat} {v : Value} (hr : RepV C (.ptr k o.ver a b) v) : RepV (C.move k j o) (.ptr j C.N a b) v := by
  simp only [RepV] at *
  refine ⟨hr.1, Nat.lt_succ_self _, fun x hx hv => ?_⟩
  rcases move_live hx with ⟨_, rfl, e⟩ | ⟨n1, _⟩
  · rw [e]; exact hr.2.2 o hk rfl
  · exact absurd rfl n1
theorem RetW.moveP {n j k ver a b : Nat} {Q : AEnd → AHeap → Prop} {s : AHeap} {o : AObj} (hn : n ≤ s.length) (hk : s[k]? = some (some o)) (hv : o.ver = ver)
    (h : ∀ N, Q (.ret (.ptr j N a b)) (((s.set k none).set j (some { o with ver := N })).take n)) : RetW G n Q (.ptr k ver a b) s :=
  ⟨hn, fun C u hg hs hr => by
    subst hs
    subst hv
    exact ⟨.ptr j C.N a b, C.move k j o, rfl, good_move hg hk, ext_move hk, by simp [Ctx.move], move_ptr hk hr, h C.N⟩⟩
theorem Wk.func {fn : Fn} {s s' : AHeap} {fs cs cs' : List AV} (h : Wk G s cs s' cs') : Wk G s [.func fn fs cs] s' [.func fn fs cs'] := by
  intro C us hg hs hr
  simp only [RepL, RepV] at hr
  obtain ⟨u, r, rfl, ⟨f, c, rfl, h1, h2⟩, rfl⟩ := hr
  obtain ⟨C', g1, g2, g3, g4, g5⟩ := h C c.toList hg hs h2
  refine ⟨C', g1, g2, g3, g4, ?_⟩
  simp only [RepL, RepV]
  exact ⟨_, [], rfl, ⟨f, c, rfl, RepL.ext g3 _ _ h1, g5⟩, rfl⟩
theorem RetW.move2 {n j k ver : Nat} {b : AV} {Q : AEnd → AHeap → Prop} {s : AHeap} {o : AObj} (hn : n ≤ s.length) (hk : s[k]? = some (some o)) (hv : o.ver = ver)
    (h : ∀ N, Q (.ret (.tuple [.sl j N, b])) (((s.set k none).set j (some { o with ver := N })).take n)) : RetW G n Q (.tuple [.sl k ver, b]) s :=
  ⟨hn, fun C u hg hs hr => by
    subst hs
    subst hv
    refine ⟨.tuple [.sl j C.N, b], C.move k j o, rfl, good_move hg hk, ext_move hk, by simp [Ctx.move], ?_, h C.N⟩
    simp only [RepV, RepL] at hr ⊢
    obtain ⟨us, rfl, u1, r1, e, h1, u2, r2, e2, h2, rfl⟩ := hr
    exact ⟨us, rfl, u1, r1, e, move_sl hk (by simpa only [RepV] using h1), u2, [], e2, RepV.ext (ext_move hk) _ _ h2, rfl⟩⟩
end
end Go.Abs
/- Methods of a struct of one cell that names a row of bytes. -/
namespace Go.Abs
open Go
def wrtO (T v : Nat) (r : AV) : AObj := ⟨v, T, 1, [[r]]⟩
theorem hands_wrt {s : AHeap} {i j T v rv e : Nat} {l : List UInt8} (hij : i ≠ j) (hi : s[i]? = some (some (wrtO T v (.sl j rv)))) (hj : s[j]? = some (some ⟨rv, e, 1, byteEs' l⟩)) :
    Hands s [i, j] [some (wrtO T v (.sl 1 rv)), some ⟨rv, e, 1, byteEs' l⟩] := by
  refine ⟨by simp [hij], rfl, fun k hk => ?_, fun k m hm => ?_, fun o ho => ?_⟩
  · have : k = i ∨ k = j := by simpa using hk
    rcases this with rfl | rfl
    · exact (List.getElem?_eq_some_iff.1 hi).1
    · exact (List.getElem?_eq_some_iff.1 hj).1
  · match k, hm with
    | 0, hm =>
      have : i = m := by simpa using hm
      subst this
      rw [hi]
      simp [renO, wrtO, renLL, renL, ren]
    | 1, hm =>
      have : j = m := by simpa using hm
      subst this
      rw [hj]
      simp [renO_bytes]
    | k + 2, hm => simp at hm
  · have : o = wrtO T v (.sl 1 rv) ∨ o = ⟨rv, e, 1, byteEs' l⟩ := by simpa using ho
    rcases this with rfl | rfl
    · rfl
    · exact insideLL_closed _ _ (closedLL_bytes l)
section
variable {P : Program} {G : Globs} {s : AHeap} {f : FuncId} {K KP : AV → AHeap → Prop}
theorem CallW.wrt {i j T v rv e : Nat} {r : AV} {x : List AV} {l l' : List UInt8} (hij : i ≠ j) (hi : s[i]? = Option.some (Option.some (wrtO T v (.sl j rv)))) (hj : s[j]? = Option.some (Option.some ⟨rv, e, 1, byteEs' l⟩))
    (h : Does P G f (.ptr 0 v 0 0 :: x) [Option.some (wrtO T v (.sl 1 rv)), Option.some ⟨rv, e, 1, byteEs' l⟩] fun ae O => ae = .ret r ∧ ∃ rv', O = [Option.some (wrtO T v (.sl 1 rv')), Option.some ⟨rv', e, 1, byteEs' l'⟩])
    (hx : closedL x = true) (k : ∀ rv', setHK s i (wrtO T v (.sl j rv')) fun s => setHK s j ⟨rv', e, 1, byteEs' l'⟩ (K (ren [i, j] r))) : CallW P G f (.ptr i v 0 0 :: x) s K KP := by
  refine CallW.ofN [i, j] h (hands_wrt hij hi hj) ?_ ?_ ?_
  · simp [renL, ren, renL_closed _ _ hx]
  · simp [insideL, inside, insideL_closed _ _ hx]
  · rintro ae O ⟨rfl, rv', rfl⟩ _
    have := k rv'
    simp only [setHK_eq] at this
    simp only [putR, Option.map_some, renO_bytes]
    simpa [renO, wrtO, renLL, renL, ren] using this
end
/-! A struct of three cells, and a cell that points to it (a variable that a function value holds). -/
theorem hands_rc {s : AHeap} {i j T v vc t : Nat} {cs : List AV} (hij : i ≠ j) (hc : closedL cs = true) (hi : s[i]? = some (some ⟨v, T, 3, [cs]⟩)) (hj : s[j]? = some (some ⟨vc, t, 1, [[.ptr i v 0 0]]⟩)) :
    Hands s [i, j] [some ⟨v, T, 3, [cs]⟩, some ⟨vc, t, 1, [[.ptr 0 v 0 0]]⟩] := by
  refine ⟨by simp [hij], rfl, fun k hk => ?_, fun k m hm => ?_, fun o ho => ?_⟩
  · have : k = i ∨ k = j := by simpa using hk
    rcases this with rfl | rfl
    · exact (List.getElem?_eq_some_iff.1 hi).1
    · exact (List.getElem?_eq_some_iff.1 hj).1
  · match k, hm with
    | 0, hm =>
      have : i = m := by simpa using hm
      subst this
      rw [hi]
      simp [renO, renLL, renL_closed _ _ hc]
    | 1, hm =>
      have : j = m := by simpa using hm
      subst this
      rw [hj]
      simp [renO, renLL, renL, ren]
    | k + 2, hm => simp at hm
  · have : o = ⟨v, T, 3, [cs]⟩ ∨ o = ⟨vc, t, 1, [[.ptr 0 v 0 0]]⟩ := by simpa using ho
    rcases this with rfl | rfl
    · simp [insideLL, insideL_closed _ _ hc]
    · rfl
section
variable {P : Program} {G : Globs} {s : AHeap} {f : FuncId} {K KP : AV → AHeap → Prop}
theorem CallW.rc {i j T v vc t : Nat} {r : AV} {xs ys cs cs' : List AV} (hij : i ≠ j) (hi : s[i]? = Option.some (Option.some ⟨v, T, 3, [cs]⟩)) (hj : s[j]? = Option.some (Option.some ⟨vc, t, 1, [[.ptr i v 0 0]]⟩))
    (h : Does P G f ys [Option.some ⟨v, T, 3, [cs]⟩, Option.some ⟨vc, t, 1, [[.ptr 0 v 0 0]]⟩] fun ae O => ae = .ret r ∧ O = [Option.some ⟨v, T, 3, [cs']⟩, Option.some ⟨vc, t, 1, [[.ptr 0 v 0 0]]⟩])
    (has : renL [i, j] ys = xs) (hin : insideL 2 ys = true) (hc : closedL cs = true) (hc' : closedL cs' = true) (hr : closed r = true)
    (k : setHK s i ⟨v, T, 3, [cs']⟩ fun s => setHK s j ⟨vc, t, 1, [[.ptr i v 0 0]]⟩ (K r)) : CallW P G f xs s K KP := by
  refine CallW.ofN [i, j] h (hands_rc hij hc hi hj) has hin ?_
  rintro ae O ⟨rfl, rfl⟩ _
  simp only [setHK_eq] at k
  simp only [putR, Option.map_some, ren_closed _ _ hr]
  simpa [renO, renLL, renL, ren, renL_closed _ _ hc'] using k
theorem CallW.fresh {xs : List AV} (i : Nat) {mk : Nat → AObj} (h : Does P G f xs [Option.none] fun ae O => ∃ N, ae = .ret (.ptr 0 N 0 0) ∧ O = [Option.some (mk N)]) (hi : s[i]? = Option.some Option.none) (hc : closedL xs = true)
    (hm : ∀ N, closedLL (mk N).es = true) (k : ∀ N, setHK s i (mk N) (K (.ptr i N 0 0))) : CallW P G f xs s K KP := by
  refine CallW.ofN [i] h ⟨by simp, rfl, fun j hj => ?_, fun k j hk => ?_, fun o ho => by simp at ho⟩ (renL_closed _ _ hc) (insideL_closed _ _ hc) ?_
  · have : j = i := by simpa using hj
    subst this
    exact (List.getElem?_eq_some_iff.1 hi).1
  · match k, hk with
    | 0, hk =>
      have : i = j := by simpa using hk
      subst this
      rw [hi]; rfl
    | k + 1, hk => simp at hk
  · rintro ae O ⟨N, rfl, rfl⟩ _
    have := k N
    simp only [setHK_eq] at this
    simp only [putR, Option.map_some, renO_closed _ (hm N)]
    simpa [ren] using this
end
end Go.Abs
