/- Numbers by ten; the world in which a law begins, with the table of the powers of ten. -/
import Derived.Test.YtjjppmbojcgdgaaGreatDoorTop
import Derived.Test.YtjjppmbojcgdgaaGreatDoorShelh
import Derived.Test.YtjjppmbojcgdgaaGreatDoorRows
import Derived.Lib.LaidU8
import Derived.Lib.AppendIntMem
import Derived.ProofKit
set_option linter.unusedVariables false
set_option linter.unusedSimpArgs false
set_option maxRecDepth 100000
set_option maxHeartbeats 4000000
namespace Go.Proofs.YtjjppmbojcgdgaaGreatDoor
open Go Go.Abs
def powCells : List AV := Lib.pow10Tab.map fun n => .int .u64 n
/-- The variables that are read, and one more. -/
def GP (m : Int) : Globs := (3, powCells) :: GL m
theorem powTab {m : Int} {C : Ctx} (hg : Abs.Good (GP m) C) : Lib.TabIs Tryz.prog C.w "internal/strconv.uint64pow10" .u64 Lib.pow10Tab := by
  obtain ⟨us, _, ⟨_, h2⟩, h3⟩ := hg.glob (3, powCells) (by simp [GP])
  obtain ⟨cs, t, fr, k1, k2⟩ := h2 (by simp [powCells, Lib.pow10Tab_length])
  have e1 : powCells = (Lib.pow10Tab.map fun n => (IntKind.u64, n)).map fun x => AV.int x.1 x.2 := by unfold powCells; rw [List.map_map]; rfl
  rw [e1] at h3
  have h4 := rep_ints h3
  have hgn : Tryz.prog.globalNamed "internal/strconv.uint64pow10" = some 3 := by kernel_rfl
  unfold Lib.TabIs World.var?
  rw [hgn]
  simp only [Option.bind_some]
  show (match C.w.heap[(3 : Nat)]? with | some (.cells cs _ _) => some cs | _ => none) = _
  rw [k1]
  simp only [Option.some.injEq]
  apply Array.ext'
  rw [k2, h4, List.map_map]
  rfl
theorem rep_int1 {C : Ctx} {k : IntKind} {n : Int} {cargs : List Value} (h : RepL C [.int k n] cargs) : cargs = [.int k n] := by
  simp only [RepL, RepV, RepF] at h
  obtain ⟨u, r, rfl, rfl, rfl⟩ := h; rfl
theorem Itoa_does (m : Int) (n : Int) (h0 : -9223372036854775808 ≤ n) (h1 : n ≤ 9223372036854775807) : Does Tryz.prog (GP m) 150 [.int .i64 n] [] fun ae _ => ae = .ret (.str (Lib.itoa n)) :=
  Does.of_calls (v := .string ⟨⟨Lib.itoa n⟩⟩) Tryz.func150 rfl rfl (fun C => by simp [RepF]) fun C cargs hg hr => by
    rw [rep_int1 hr]
    refine (Tryz.strconv_Itoa n h0 h1 C.w (powTab hg)).mono ?_
    rintro e w' ⟨rfl, k, os, rfl⟩
    exact ⟨rfl, Lib.below_grow _ _ (Nat.le_refl _) _ _⟩
theorem top_GP {W : World} {m : Int} (hU : Lib.Utf8Tabs 0 1 W) (hm : W.cell? ⟨2, 0, none⟩ = some (.int .i64 m)) (hd : Lib.VarReads Tryz.prog W "internal/strconv.uint64pow10" Rows.laid_internal_strconv_uint64pow10) : Abs.Good (GP m) (Ctx.top W) := by
  have hg := top_GL hU hm
  refine top_good fun p hp => ?_
  rcases List.mem_cons.1 hp with rfl | hp
  · obtain ⟨g, t, cs, fuel, q, hn, hty, hvar, ht⟩ := hd
    obtain rfl : 3 = g := Option.some.inj ((show Tryz.prog.globalNamed "internal/strconv.uint64pow10" = some 3 by kernel_rfl).symm.trans hn)
    obtain rfl : 406 = t := Option.some.inj ((show (Tryz.prog.globals[3]?).map (·.type) = some 406 by kernel_rfl).symm.trans hty)
    have hcs : cs.toList = Lib.pow10Tab.map fun n => Value.int .u64 n := Lib.cells_of_tab (zs := Lib.pow10Tab) (k := .u64) Tryz.underlying406 Tryz.underlying333 (by kernel_rfl) (by kernel_rfl) ht
    have hc : ∀ j : Nat, W.cell? ⟨3, j, none⟩ = cs[j]? := World.var?_cell hn hvar
    have hblk : ∃ t fr, W.heap[(3 : Nat)]? = some (.cells cs t fr) := by
      unfold World.var? at hvar
      rw [hn] at hvar
      simp only [Option.bind_some] at hvar
      split at hvar
      · rename_i c t f he
        cases hvar
        exact ⟨t, f, he⟩
      · cases hvar
    refine ⟨cs.toList, block_of_cell (off := 0) (v := .int .u64 1) (by rw [hc, ← Array.getElem?_toList, hcs]; rfl), ⟨fun j u hu => by rw [Nat.zero_add, hc, ← Array.getElem?_toList]; exact hu, fun _ => by
      obtain ⟨t, fr, he⟩ := hblk
      exact ⟨cs, t, fr, he, rfl⟩⟩, ?_⟩
    rw [hcs]
    have := rep_of_ints (C := Ctx.top W) (Lib.pow10Tab.map fun n => (IntKind.u64, n))
    rw [List.map_map, List.map_map] at this
    exact this
  · obtain ⟨us, h1, h2, h3⟩ := hg.glob p hp
    exact ⟨us, h1.1, h2, h3⟩
end Go.Proofs.YtjjppmbojcgdgaaGreatDoor
