/- Texts and rows, laid. -/
import Derived.Test.YtpbjjhpihhnomaaGreatDoorJ18
import Derived.Test.YtpbjjhpihhnomaaGreatDoorJ26
import Derived.Test.YtpbjjhpihhnomaaGreatDoorJ22
set_option linter.unusedVariables false
set_option linter.unusedSimpArgs false
set_option maxRecDepth 100000
set_option maxHeartbeats 4000000

namespace Go.Proofs.YtpbjjhpihhnomaaGreatDoor
open Go Go.Abs
set_option linter.unusedVariables false
set_option linter.unusedSimpArgs false
end Go.Proofs.YtpbjjhpihhnomaaGreatDoor

namespace Go.Proofs.YtpbjjhpihhnomaaGreatDoor
open Go Go.Abs
attribute [local irreducible] DrawW CallW RetW AC Does CmpW
variable {G : Globs}
theorem flat_take_le {α : Type} (w : α → List UInt8) (l : List α) (i : Nat) : ((l.take i).flatMap w).length ≤ (l.flatMap w).length := by
  have h : (l.flatMap w).length = ((l.take i).flatMap w).length + ((l.drop i).flatMap w).length := by
    rw [← List.length_append, ← List.flatMap_append, List.take_append_drop]
  omega
theorem flat_take_succ {α : Type} (w : α → List UInt8) {l : List α} {i : Nat} {x : α} (h : l[i]? = some x) : (l.take (i + 1)).flatMap w = (l.take i).flatMap w ++ w x := by
  rw [List.take_add_one, h]; simp
theorem listW_len {α : Type} (w : α → List UInt8) (l : List α) : (listW w l).length = (numW l.length).length + (l.flatMap w).length := by rw [listW, List.length_append]
theorem layTexts_does (v rv : Nat) (ts : List TTxt) (l : List UInt8) (hb : belT ts = true) (hl : l.length + (listW txtW ts).length ≤ 65536) : Does Tryz.prog G 94 [.ptr 0 v 0 0, txtL ts] [some (wrtO 191 v (.sl 1 rv)), some ⟨rv, 5, 1, byteEs' l⟩]
    fun ae O => ae = .ret (.tuple []) ∧ ∃ rv', O = [some (wrtO 191 v (.sl 1 rv')), some ⟨rv', 5, 1, byteEs' (l ++ listW txtW ts)⟩] := by
  have hll : (ts.map encT).length = ts.length := by simp
  have hL := listW_len txtW ts
  have hfl := len_flat (w := txtW) txtW_pos ts
  refine Does.bodyA tab Tryz.func94 rfl rfl ?_
  refine AC.step tab ?_
  refine gos ?_
  rw [hll]
  refine CallW.wrt (i := 0) (j := 1) (by decide) rfl rfl (WNum_does v rv ts.length l (by omega) (by omega)) rfl (fun rv0 => ?_)
  refine gos ?_
  refine AC.step tab ?_
  refine gos ?_
  rw [hll]
  refine AC.blk ?_
  refine AC.loopA (fun f e h => ∃ (i rv' : Nat), f + i = ts.length + 1 ∧ i ≤ ts.length ∧ e = ([.ptr 0 v 0 0] ++ List.replicate 9 .any ++ [.fsl (ts.map encT), .int .i64 ts.length, .int .i64 i] ++ List.replicate 11 .any) ∧
      h = [some (wrtO 191 v (.sl 1 rv')), some ⟨rv', 5, 1, byteEs' (l ++ numW ts.length ++ (ts.take i).flatMap txtW)⟩]) (ts.length + 1) ⟨_, fgts, 0, rv0, by omega, by omega, rfl, by simp⟩ ?_
  rintro f e h ⟨i, rv', hf, hi, rfl, rfl⟩
  refine AC.step tab ?_
  refine gos ?_
  by_cases hlt : i < ts.length
  · obtain ⟨x, hx⟩ : ∃ d, ts[i]? = some d := ⟨_, List.getElem?_eq_getElem hlt⟩
    have hc : x.cat < 9223372036854775808 := by
      have := List.all_eq_true.1 hb x (List.mem_of_getElem? hx)
      simpa [belN] using this
    have htk := flat_take_succ txtW hx
    have h1 := flat_take_le txtW ts (i + 1)
    have h2 := flat_take_le txtW ts i
    rw [htk, List.length_append] at h1
    have h3 : (txtW x).length = (numW x.cat).length + (textW x.text).length := by rw [txtW, List.length_append]
    have h4 : x.text.length ≤ (textW x.text).length := by rw [textW, List.length_append]; omega
    refine CmpW.T ?_
    refine gos ?_
    refine AC.step tab ?_
    refine gos ?_
    refine AC.seqA ?_
    refine AC.blk ?_
    refine AC.step tab ?_
    refine gos ?_
    refine And.intro (encT_two ts) (And.intro (by omega) ⟨encT x, by rw [Int.toNat_natCast]; exact map_get hx, ?_⟩)
    refine gos ?_
    intro v2
    refine gos ?_
    refine AC.wk (Wk.ptr (k := 5) (i := 2) rfl rfl rfl rfl rfl) ?_
    refine AC.go tab ?_
    refine DrawW.P (.take 0 (.take 1 (.takeF 2 (.take 4 (.takeF 5 (.take 3 (.take 6 .done))))))) ?_
    refine gos ?_
    refine CallW.wrt (i := 0) (j := 1) (by decide) rfl rfl (WNum_does v rv' x.cat _ hc (by simp only [List.length_append]; omega)) rfl (fun rv2 => ?_)
    refine gos ?_
    refine CallW.wrt (i := 0) (j := 1) (by decide) rfl rfl (WText_does v rv2 x.text _ (by omega) (by simp only [List.length_append]; omega)) rfl (fun rv3 => ?_)
    refine gos ?_
    refine AC.go tab ?_
    refine gos ?_
    exact ⟨f - 1, _, 2, by omega, fgts, i + 1, rv3, by omega, by omega, rfl, by rw [htk]; simp only [txtW, List.append_assoc]; rfl⟩
  · refine CmpW.N ?_
    refine gos ?_
    refine AC.go tab ?_
    refine gos ?_
    have : i = ts.length := by omega
    subst this
    refine RetW.plain (by simp) ?_
    refine ⟨rfl, rv', ?_⟩
    simp only [List.take_length, listW, List.append_assoc]
    rfl
theorem layRows_does (v rv : Nat) (ts : List TRow) (l : List UInt8) (hb : belR ts = true) (hl : l.length + (listW rowW ts).length ≤ 65536) : Does Tryz.prog G 93 [.ptr 0 v 0 0, rowL ts] [some (wrtO 191 v (.sl 1 rv)), some ⟨rv, 5, 1, byteEs' l⟩]
    fun ae O => ae = .ret (.tuple []) ∧ ∃ rv', O = [some (wrtO 191 v (.sl 1 rv')), some ⟨rv', 5, 1, byteEs' (l ++ listW rowW ts)⟩] := by
  have hll : (ts.map encR).length = ts.length := by simp
  have hL := listW_len rowW ts
  have hfl := len_flat (w := rowW) rowW_pos ts
  refine Does.bodyA tab Tryz.func93 rfl rfl ?_
  refine AC.step tab ?_
  refine gos ?_
  rw [hll]
  refine CallW.wrt (i := 0) (j := 1) (by decide) rfl rfl (WNum_does v rv ts.length l (by omega) (by omega)) rfl (fun rv0 => ?_)
  refine gos ?_
  refine AC.step tab ?_
  refine gos ?_
  rw [hll]
  refine AC.blk ?_
  refine AC.loopA (fun f e h => ∃ (i rv' : Nat), f + i = ts.length + 1 ∧ i ≤ ts.length ∧ e = ([.ptr 0 v 0 0] ++ List.replicate 9 .any ++ [.fsl (ts.map encR), .int .i64 ts.length, .int .i64 i] ++ List.replicate 12 .any) ∧
      h = [some (wrtO 191 v (.sl 1 rv')), some ⟨rv', 5, 1, byteEs' (l ++ numW ts.length ++ (ts.take i).flatMap rowW)⟩]) (ts.length + 1) ⟨_, fgts, 0, rv0, by omega, by omega, rfl, by simp⟩ ?_
  rintro f e h ⟨i, rv', hf, hi, rfl, rfl⟩
  refine AC.step tab ?_
  refine gos ?_
  by_cases hlt : i < ts.length
  · obtain ⟨x, hx⟩ : ∃ d, ts[i]? = some d := ⟨_, List.getElem?_eq_getElem hlt⟩
    have hxb := List.all_eq_true.1 hb x (List.mem_of_getElem? hx)
    rw [Bool.and_eq_true] at hxb
    have hc : x.mag < 9223372036854775808 := by simpa [belN] using hxb.1
    have htk := flat_take_succ rowW hx
    have h1 := flat_take_le rowW ts (i + 1)
    have h2 := flat_take_le rowW ts i
    rw [htk, List.length_append] at h1
    have h3 : (rowW x).length = (numW x.mag).length + (listW txtW x.texts).length := by rw [rowW, List.length_append]
    refine CmpW.T ?_
    refine gos ?_
    refine AC.step tab ?_
    refine gos ?_
    refine AC.seqA ?_
    refine AC.blk ?_
    refine AC.step tab ?_
    refine gos ?_
    refine And.intro (encR_two ts) (And.intro (by omega) ⟨encR x, by rw [Int.toNat_natCast]; exact map_get hx, ?_⟩)
    refine gos ?_
    intro v2
    refine gos ?_
    refine AC.step tab ?_
    refine gos ?_
    refine CallW.wrt (i := 0) (j := 1) (by decide) rfl rfl (WNum_does v rv' x.mag _ hc (by simp only [List.length_append]; omega)) rfl (fun rv2 => ?_)
    refine gos ?_
    refine AC.go tab ?_
    refine gos ?_
    refine CallW.wrt (i := 0) (j := 1) (by decide) rfl rfl (layTexts_does v rv2 x.texts _ hxb.2 (by simp only [List.length_append]; omega)) rfl (fun rv3 => ?_)
    refine gos ?_
    refine AC.go tab ?_
    refine gos ?_
    exact ⟨f - 1, _, 2, by omega, fgts, i + 1, rv3, by omega, by omega, rfl, by rw [htk]; simp only [rowW, List.append_assoc]; rfl⟩
  · refine CmpW.N ?_
    refine gos ?_
    refine AC.go tab ?_
    refine gos ?_
    have : i = ts.length := by omega
    subst this
    refine RetW.plain (by simp) ?_
    refine ⟨rfl, rv', ?_⟩
    simp only [List.take_length, listW, List.append_assoc]
    rfl
end Go.Proofs.YtpbjjhpihhnomaaGreatDoor
