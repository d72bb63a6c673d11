/- Texts, rows, currencies, units, read. -/
import Derived.Test.YtpbjjhpihhnomaaGreatDoorJ33
import Derived.Test.YtpbjjhpihhnomaaGreatDoorJ36
set_option linter.unusedVariables false
set_option linter.unusedSimpArgs false
set_option maxRecDepth 100000
set_option maxHeartbeats 4000000

namespace Go.Proofs.YtpbjjhpihhnomaaGreatDoor
open Go Go.Abs
attribute [local irreducible] DrawW CallW RetW AC Does CmpW
variable {G : Globs}
def strs27 (t : TTab) : List (List UInt8) := [t.dg.d0, t.dg.d1, t.dg.d2, t.dg.d3, t.dg.d4, t.dg.d5, t.dg.d6, t.dg.d7, t.dg.d8, t.dg.d9, t.minus, t.plus, t.percent, t.permille, t.point, t.comma, t.decimal, t.per, t.money, t.account, t.rules, t.before.cur, t.before.num, t.before.ins, t.after.cur, t.after.num, t.after.ins]
def offs27 : List Nat := [0, 1, 2, 3, 4, 5, 6, 7, 8, 9, 10, 11, 12, 13, 14, 15, 17, 18, 19, 20, 21, 28, 29, 30, 31, 32, 33]
def ptrsF (t : TTab) : List (List AV) := offs27.map fun k => [.fptr ((tabC t).drop k)]
def ptrsO (v : Nat) : List (List AV) := offs27.map fun k => [.ptr 0 v 0 k]
theorem ptrsF_get (t : TTab) {i : Nat} (hi : i < 27) : ∃ s cs, (strs27 t)[i]? = some s ∧ (ptrsF t)[i]? = some [.fptr (.str s :: cs)] := by
  have : i = 0 ∨ i = 1 ∨ i = 2 ∨ i = 3 ∨ i = 4 ∨ i = 5 ∨ i = 6 ∨ i = 7 ∨ i = 8 ∨ i = 9 ∨ i = 10 ∨ i = 11 ∨ i = 12 ∨ i = 13 ∨ i = 14 ∨ i = 15 ∨ i = 16 ∨ i = 17 ∨ i = 18 ∨ i = 19 ∨ i = 20 ∨ i = 21 ∨ i = 22 ∨ i = 23 ∨ i = 24 ∨ i = 25 ∨ i = 26 := by omega
  rcases this with rfl | rfl | rfl | rfl | rfl | rfl | rfl | rfl | rfl | rfl | rfl | rfl | rfl | rfl | rfl | rfl | rfl | rfl | rfl | rfl | rfl | rfl | rfl | rfl | rfl | rfl | rfl
  all_goals exact ⟨_, _, rfl, rfl⟩
theorem ptrsF_one (t : TTab) : ∀ y ∈ ptrsF t, y.length = 1 := fun y hy => by obtain ⟨z, _, rfl⟩ := List.mem_map.1 hy; rfl
theorem textsF_does (t : TTab) : Does Tryz.prog G 90 [.fptr (tabC t)] [] fun ae _ => ae = .ret (.fsl (ptrsF t)) := by
  refine Does.bodyA tab Tryz.func90 rfl rfl ?_
  refine AC.step tab ?_
  refine gos ?_
  refine AC.step tab ?_
  refine gos ?_
  intro v1
  refine gos ?_
  refine AC.cutF tab (fun e h => ∃ v2, e = ([.fptr (tabC t)] ++ List.replicate 2 .any ++ [.sl 0 v2] ++ List.replicate 74 .any) ∧ h = [some ⟨v2, 170, 1, (ptrsF t).take 10⟩]) ?_ ?_
  · refine gos ?_
    refine AC.rounds tab 11 ?_
    (repeat (first | refine gof ?_ | refine fun (vv : Nat) => ?_))
    exact ⟨_, 1, fgts, _, rfl, rfl⟩
  rintro e h ⟨v2, rfl, rfl⟩
  refine AC.go tab ?_
  refine gos ?_
  refine DrawW.L ?_
  refine gos ?_
  intro v3
  refine gos ?_
  refine And.intro (And.intro (fun y hy => by obtain ⟨z, _, rfl⟩ := List.mem_map.1 (show y ∈ (offs27.drop 10).map (fun k => [AV.fptr ((tabC t).drop k)]) from hy); rfl) (fun y hy => by obtain ⟨z, _, rfl⟩ := List.mem_map.1 (show y ∈ (offs27.drop 10).map (fun k => [AV.fptr ((tabC t).drop k)]) from hy); rfl)) ?_
  refine And.intro (And.intro rfl trivial) ?_
  (repeat (first | refine gof ?_ | refine fun (vv : Nat) => ?_))
  refine RetW.wk (r' := .fsl (ptrsF t)) (by simp) ?_ (Wk.row (k := 0) (i := 0) (o := ⟨vv, 170, 1, ptrsF t⟩) rfl rfl rfl rfl) ?_
  · rfl
  rfl
theorem textsO_does (es : List (List AV)) (v : Nat) : Does Tryz.prog G 90 [.ptr 0 v 0 0] [some ⟨v, 43, 34, es⟩, none] fun ae O => ∃ N, ae = .ret (.sl 1 N) ∧ O = [some ⟨v, 43, 34, es⟩, some ⟨N, 170, 1, ptrsO v⟩] := by
  refine Does.bodyA tab Tryz.func90 rfl rfl ?_
  refine AC.step tab ?_
  refine gos ?_
  refine AC.step tab ?_
  refine gos ?_
  intro v1
  refine gos ?_
  refine AC.cutF tab (fun e h => ∃ v2, e = ([.ptr 0 v 0 0] ++ List.replicate 2 .any ++ [.sl 2 v2] ++ List.replicate 74 .any) ∧ h = [some ⟨v, 43, 34, es⟩, none, some ⟨v2, 170, 1, (ptrsO v).take 10⟩]) ?_ ?_
  · refine gos ?_
    refine AC.rounds tab 11 ?_
    (repeat (first | refine gof ?_ | refine fun (vv : Nat) => ?_))
    exact ⟨_, 3, fgts, _, rfl, rfl⟩
  rintro e h ⟨v2, rfl, rfl⟩
  refine AC.go tab ?_
  refine gos ?_
  refine DrawW.L ?_
  refine gos ?_
  intro v3
  refine gos ?_
  refine And.intro (And.intro (fun y hy => by obtain ⟨z, _, rfl⟩ := List.mem_map.1 (show y ∈ (offs27.drop 10).map (fun k => [AV.ptr 0 v 0 k]) from hy); rfl) (fun y hy => by obtain ⟨z, _, rfl⟩ := List.mem_map.1 (show y ∈ (offs27.drop 10).map (fun k => [AV.ptr 0 v 0 k]) from hy); rfl)) ?_
  refine And.intro (And.intro rfl trivial) ?_
  (repeat (first | refine gof ?_ | refine fun (vv : Nat) => ?_))
  refine RetW.move (j := 1) (k := 2) (by simp) rfl rfl (fun N => ?_)
  exact ⟨N, rfl, rfl⟩
end Go.Proofs.YtpbjjhpihhnomaaGreatDoor

namespace Go.Proofs.YtpbjjhpihhnomaaGreatDoor
open Go Go.Abs
attribute [local irreducible] DrawW CallW RetW AC Does CmpW
variable {G : Globs}
def enc5 (t : TTab) : List UInt8 := listW untW t.units ++ listW txtW t.munit
def enc4 (t : TTab) : List UInt8 := listW curW t.curs ++ enc5 t
def enc3 (t : TTab) : List UInt8 := listW rowW t.short ++ (listW rowW t.long ++ (listW rowW t.mshort ++ enc4 t))
def encH (v rv : Nat) (l : List UInt8) : AHeap := [none, some (wrtO 191 v (.sl 2 rv)), some ⟨rv, 5, 1, byteEs' l⟩]
theorem enc_split (t : TTab) : encF t = (strs27 t).flatMap textW ++ (numW t.minGroup ++ enc3 t) := by
  simp [encF, strs27, enc3, enc4, enc5]
theorem Encode_does (t : TTab) (hb : t.below = true) (hl : (encF t).length ≤ 65536) : Does Tryz.prog G 43 [.agg (tabC t)] [] fun ae _ => ae = .ret (.str (encF t)) := by
  have hS := enc_split t
  have hl0 := hl
  rw [hS] at hl
  obtain ⟨S, hSd⟩ : ∃ S, S = (strs27 t).flatMap textW := ⟨_, rfl⟩
  rw [← hSd] at hS hl
  have hlen := congrArg List.length hS
  simp only [enc3, enc4, enc5, List.length_append] at hl
  simp only [TTab.below, Bool.and_eq_true] at hb
  obtain ⟨b0, b1, b2, b3, b4, b5, b6⟩ := hb
  have b0 : t.minGroup < 9223372036854775808 := by simpa [belN] using b0
  have lc : (t.curs.map encCu).length = t.curs.length := by simp
  have lu : (t.units.map encU).length = t.units.length := by simp
  have hCl := listW_len curW t.curs
  have hUl := listW_len untW t.units
  have hCf := len_flat (w := curW) curW_pos t.curs
  have hUf := len_flat (w := untW) untW_pos t.units
  refine Does.bodyA tab Tryz.func43 rfl rfl ?_
  refine AC.step tab ?_
  refine gos ?_
  intro v0
  refine gos ?_
  refine AC.step tab ?_
  refine gos ?_
  intro v1
  refine gos ?_
  refine AC.wk (Wk.ptr (k := 1) (i := 0) rfl rfl rfl rfl rfl) ?_
  refine AC.ownC 1 0 5 1 rfl rfl rfl (by omega) fun v2 => ?_
  refine AC.cutA (fun e h => ∃ rv, e = (List.replicate 1 .any ++ [.fptr (tabC t)] ++ List.replicate 1 .any ++ [.ptr 1 v1 0 0] ++ List.replicate 109 .any) ∧ h = encH v1 rv S) ?_ ?_
  · refine AC.step tab ?_
    refine gos ?_
    refine CallW.pure (textsF_does t) rfl rfl ?_
    refine gos ?_
    refine AC.blk ?_
    refine AC.loopC tab (fun f e h => ∃ (i rv : Nat), f + i = 28 ∧ i ≤ 27 ∧ e = (List.replicate 1 .any ++ [.fptr (tabC t)] ++ List.replicate 1 .any ++ [.ptr 1 v1 0 0] ++ List.replicate 10 .any ++ [.fsl (ptrsF t), .int .i64 27, .int .i64 i] ++ List.replicate 96 .any) ∧ h = encH v1 rv (((strs27 t).take i).flatMap textW))
      28 ⟨_, fgts, 0, v2, by omega, by omega, rfl, rfl⟩ ?_
    rintro f e h ⟨i, rv, hf, hi, rfl, rfl⟩
    refine gos ?_
    by_cases hlt : i < 27
    · obtain ⟨s, cs, hs, hp⟩ := ptrsF_get t hlt
      have htk := flat_take_succ textW hs
      have h1 := flat_take_le textW (strs27 t) (i + 1)
      rw [htk, List.length_append, ← hSd] at h1
      have h4 : s.length ≤ (textW s).length := by rw [textW, List.length_append]; omega
      refine CmpW.T ?_
      refine gos ?_
      refine And.intro (ptrsF_one t) (And.intro (by omega) ⟨[.fptr (.str s :: cs)], by rw [Int.toNat_natCast]; exact hp, ?_⟩)
      refine gos ?_
      refine CallW.wrt (i := 1) (j := 2) (by decide) rfl rfl (WText_does v1 rv s _ (by omega) (by omega)) rfl (fun rv2 => ?_)
      refine gos ?_
      exact ⟨f - 1, _, 3, by omega, fgts, i + 1, rv2, by omega, by omega, rfl, by rw [htk]; rfl⟩
    · refine CmpW.N ?_
      refine gos ?_
      have : i = 27 := by omega
      subst this
      exact ⟨_, 3, fgts, rv, rfl, by rw [hSd]; rfl⟩
  rintro e h ⟨rv, rfl, rfl⟩
  refine AC.step tab ?_
  refine gos ?_
  refine CallW.wrt (i := 1) (j := 2) (by decide) rfl rfl (WNum_does v1 rv t.minGroup S b0 (by omega)) rfl (fun rv1 => ?_)
  refine gos ?_
  refine AC.cutA (fun e h => ∃ rv, e = (List.replicate 1 .any ++ [.fptr (tabC t)] ++ List.replicate 1 .any ++ [.ptr 1 v1 0 0] ++ List.replicate 109 .any) ∧ h = encH v1 rv (S ++ numW t.minGroup ++ listW rowW t.short ++ listW rowW t.long ++ listW rowW t.mshort)) ?_ ?_
  · refine AC.step tab ?_
    refine gos ?_
    intro v3
    refine gos ?_
    refine AC.go tab ?_
    refine gos ?_
    refine AC.rounds tab 4 ?_
    (repeat (first | refine gof ?_ | refine fun (vv : Nat) => ?_))
    refine And.intro (And.intro (by decide) (by show ((0 : Nat) : Int) < ((3 : Nat) : Int); decide)) ?_
    refine gos ?_
    refine CallW.wrt (i := 1) (j := 2) (by decide) rfl rfl (layRows_does v1 rv1 t.short _ b1 (by simp only [List.length_append]; omega)) rfl (fun rv2 => ?_)
    refine gos ?_
    refine And.intro (And.intro (by decide) (by show ((1 : Nat) : Int) < ((3 : Nat) : Int); decide)) ?_
    refine gos ?_
    refine CallW.wrt (i := 1) (j := 2) (by decide) rfl rfl (layRows_does v1 rv2 t.long _ b2 (by simp only [List.length_append]; omega)) rfl (fun rv3 => ?_)
    refine gos ?_
    refine And.intro (And.intro (by decide) (by show ((2 : Nat) : Int) < ((3 : Nat) : Int); decide)) ?_
    refine gos ?_
    refine CallW.wrt (i := 1) (j := 2) (by decide) rfl rfl (layRows_does v1 rv3 t.mshort _ b3 (by simp only [List.length_append]; omega)) rfl (fun rv4 => ?_)
    refine gos ?_
    exact ⟨_, 3, fgts, rv4, rfl, rfl⟩
  rintro e h ⟨rv2, rfl, rfl⟩
  obtain ⟨S2, hS2⟩ : ∃ S2, S2 = S ++ numW t.minGroup ++ listW rowW t.short ++ listW rowW t.long ++ listW rowW t.mshort := ⟨_, rfl⟩
  have hS3 : encF t = S2 ++ enc4 t := by rw [hS, hS2, enc3]; simp only [List.append_assoc]
  have hL2 : S2.length + (listW curW t.curs).length + (listW untW t.units).length + (listW txtW t.munit).length ≤ 65536 := by
    rw [hS2]; simp only [List.length_append]; omega
  rw [← hS2]
  clear hS2 hS hl hlen
  refine AC.step tab ?_
  refine gos ?_
  rw [lc]
  refine CallW.wrt (i := 1) (j := 2) (by decide) rfl rfl (WNum_does v1 rv2 t.curs.length S2 (by omega) (by omega)) rfl (fun rv3 => ?_)
  refine gos ?_
  refine AC.cutA (fun e h => ∃ rv, e = (List.replicate 1 .any ++ [.fptr (tabC t)] ++ List.replicate 1 .any ++ [.ptr 1 v1 0 0] ++ List.replicate 109 .any) ∧ h = encH v1 rv (S2 ++ listW curW t.curs)) ?_ ?_
  · refine AC.step tab ?_
    refine gos ?_
    rw [lc]
    refine AC.blk ?_
    refine AC.loopA (fun f e h => ∃ (i rv : Nat), f + i = t.curs.length + 1 ∧ i ≤ t.curs.length ∧ e = (List.replicate 1 .any ++ [.fptr (tabC t)] ++ List.replicate 1 .any ++ [.ptr 1 v1 0 0] ++ List.replicate 48 .any ++ [.fsl (t.curs.map encCu), .int .i64 t.curs.length, .int .i64 i] ++ List.replicate 58 .any) ∧ h = encH v1 rv (S2 ++ numW t.curs.length ++ (t.curs.take i).flatMap curW))
      (t.curs.length + 1) ⟨_, fgts, 0, rv3, by omega, by omega, rfl, by simp; rfl⟩ ?_
    rintro f e h ⟨i, rv, hf, hi, rfl, rfl⟩
    refine AC.step tab ?_
    refine gos ?_
    by_cases hlt : i < t.curs.length
    · obtain ⟨x, hx⟩ : ∃ d, t.curs[i]? = some d := ⟨_, List.getElem?_eq_getElem hlt⟩
      have hxb := List.all_eq_true.1 b5 x (List.mem_of_getElem? hx)
      simp only [belC, Bool.and_eq_true, belN, decide_eq_true_eq] at hxb
      obtain ⟨c1, c2, c3, c4, c5⟩ := hxb
      have htk := flat_take_succ curW hx
      have h1 := flat_take_le curW t.curs (i + 1)
      rw [htk, List.length_append] at h1
      have h3 := congrArg List.length (show curW x = _ from rfl)
      simp only [curW, List.length_append] at h3
      have k1 : x.code.length ≤ (textW x.code).length := by rw [textW, List.length_append]; omega
      have k2 : x.symbol.length ≤ (textW x.symbol).length := by rw [textW, List.length_append]; omega
      have k3 : x.narrow.length ≤ (textW x.narrow).length := by rw [textW, List.length_append]; omega
      have hcw : (curW x).length = (textW x.code).length + ((textW x.symbol).length + ((textW x.narrow).length + ((listW txtW x.names).length + ((numW x.digits).length + ((numW x.inc).length + ((numW x.cashDigits).length + (numW x.cashInc).length)))))) := by simp only [curW, List.length_append]
      refine CmpW.T ?_
      refine gos ?_
      refine AC.step tab ?_
      refine gos ?_
      refine AC.seqA ?_
      refine AC.blk ?_
      refine AC.step tab ?_
      refine gos ?_
      refine And.intro (encCu_eight t.curs) (And.intro (by omega) ⟨encCu x, by rw [Int.toNat_natCast]; exact map_get hx, ?_⟩)
      refine gos ?_
      intro v4
      refine gos ?_
      refine AC.wk (Wk.ptr (k := 9) (i := 3) rfl rfl rfl rfl rfl) ?_
      refine AC.step tab ?_
      refine DrawW.P (.take 0 (.take 1 (.takeF 2 (.take 4 (.takeF 5 (.take 7 (.takeF 8 (.take 3 (.take 6 (.take 9 .done)))))))))) ?_
      refine gos ?_
      refine CallW.wrt (i := 1) (j := 2) (by decide) rfl rfl (WText_does v1 rv x.code _ (by omega) (by simp only [List.length_append]; omega)) rfl (fun ra => ?_)
      refine gos ?_
      refine CallW.wrt (i := 1) (j := 2) (by decide) rfl rfl (WText_does v1 ra x.symbol _ (by omega) (by simp only [List.length_append]; omega)) rfl (fun rb => ?_)
      refine gos ?_
      refine CallW.wrt (i := 1) (j := 2) (by decide) rfl rfl (WText_does v1 rb x.narrow _ (by omega) (by simp only [List.length_append]; omega)) rfl (fun rc => ?_)
      refine gos ?_
      refine AC.step tab ?_
      refine gos ?_
      refine CallW.wrt (i := 1) (j := 2) (by decide) rfl rfl (layTexts_does v1 rc x.names _ c1 (by simp only [List.length_append]; omega)) rfl (fun rd => ?_)
      refine gos ?_
      refine AC.go tab ?_
      refine DrawW.P (.take 0 (.take 1 (.takeF 2 (.take 4 (.takeF 5 (.take 7 (.takeF 8 (.take 10 (.takeF 11 (.take 3 (.take 6 (.take 9 (.take 12 .done))))))))))))) ?_
      refine gos ?_
      refine CallW.wrt (i := 1) (j := 2) (by decide) rfl rfl (WNum_does v1 rd x.digits _ c2 (by simp only [List.length_append]; omega)) rfl (fun re => ?_)
      refine gos ?_
      refine CallW.wrt (i := 1) (j := 2) (by decide) rfl rfl (WNum_does v1 re x.inc _ c3 (by simp only [List.length_append]; omega)) rfl (fun rg => ?_)
      refine gos ?_
      refine CallW.wrt (i := 1) (j := 2) (by decide) rfl rfl (WNum_does v1 rg x.cashDigits _ c4 (by simp only [List.length_append]; omega)) rfl (fun rh => ?_)
      refine gos ?_
      refine CallW.wrt (i := 1) (j := 2) (by decide) rfl rfl (WNum_does v1 rh x.cashInc _ c5 (by simp only [List.length_append]; omega)) rfl (fun ri => ?_)
      refine gos ?_
      refine AC.go tab ?_
      refine gos ?_
      exact ⟨f - 1, _, 3, by omega, fgts, i + 1, ri, by omega, by omega, rfl, by rw [htk]; simp only [curW, List.append_assoc]; rfl⟩
    · refine CmpW.N ?_
      refine gos ?_
      refine AC.go tab ?_
      refine gos ?_
      have : i = t.curs.length := by omega
      subst this
      exact ⟨_, 3, fgts, rv, rfl, by rw [List.take_length]; simp only [listW, List.append_assoc]; rfl⟩
  rintro e h ⟨rv4, rfl, rfl⟩
  refine AC.step tab ?_
  refine gos ?_
  rw [lu]
  refine CallW.wrt (i := 1) (j := 2) (by decide) rfl rfl (WNum_does v1 rv4 t.units.length _ (by omega) (by simp only [List.length_append]; omega)) rfl (fun rv5 => ?_)
  refine gos ?_
  refine AC.cutA (fun e h => ∃ rv, e = (List.replicate 1 .any ++ [.fptr (tabC t)] ++ List.replicate 1 .any ++ [.ptr 1 v1 0 0] ++ List.replicate 109 .any) ∧ h = encH v1 rv (S2 ++ listW curW t.curs ++ listW untW t.units)) ?_ ?_
  · refine AC.step tab ?_
    refine gos ?_
    rw [lu]
    refine AC.blk ?_
    refine AC.loopA (fun f e h => ∃ (i rv : Nat), f + i = t.units.length + 1 ∧ i ≤ t.units.length ∧ e = (List.replicate 1 .any ++ [.fptr (tabC t)] ++ List.replicate 1 .any ++ [.ptr 1 v1 0 0] ++ List.replicate 88 .any ++ [.fsl (t.units.map encU), .int .i64 t.units.length, .int .i64 i] ++ List.replicate 18 .any) ∧ h = encH v1 rv (S2 ++ listW curW t.curs ++ numW t.units.length ++ (t.units.take i).flatMap untW))
      (t.units.length + 1) ⟨_, fgts, 0, rv5, by omega, by omega, rfl, by simp; rfl⟩ ?_
    rintro f e h ⟨i, rv, hf, hi, rfl, rfl⟩
    refine AC.step tab ?_
    refine gos ?_
    by_cases hlt : i < t.units.length
    · obtain ⟨x, hx⟩ : ∃ d, t.units[i]? = some d := ⟨_, List.getElem?_eq_getElem hlt⟩
      have c1 := List.all_eq_true.1 b6 x (List.mem_of_getElem? hx)
      have htk := flat_take_succ untW hx
      have h1 := flat_take_le untW t.units (i + 1)
      rw [htk, List.length_append] at h1
      have k1 : x.name.length ≤ (textW x.name).length := by rw [textW, List.length_append]; omega
      have hcw : (untW x).length = (textW x.name).length + (listW txtW x.texts).length := by simp only [untW, List.length_append]
      refine CmpW.T ?_
      refine gos ?_
      refine AC.step tab ?_
      refine gos ?_
      refine AC.seqA ?_
      refine AC.blk ?_
      refine AC.step tab ?_
      refine gos ?_
      refine And.intro (encU_two t.units) (And.intro (by omega) ⟨encU x, by rw [Int.toNat_natCast]; exact map_get hx, ?_⟩)
      refine gos ?_
      intro v4
      refine gos ?_
      refine AC.step tab ?_
      refine gos ?_
      refine CallW.wrt (i := 1) (j := 2) (by decide) rfl rfl (WText_does v1 rv x.name _ (by omega) (by simp only [List.length_append]; omega)) rfl (fun ra => ?_)
      refine gos ?_
      refine AC.go tab ?_
      refine gos ?_
      refine CallW.wrt (i := 1) (j := 2) (by decide) rfl rfl (layTexts_does v1 ra x.texts _ c1 (by simp only [List.length_append]; omega)) rfl (fun rd => ?_)
      refine gos ?_
      refine AC.go tab ?_
      refine gos ?_
      exact ⟨f - 1, _, 3, by omega, fgts, i + 1, rd, by omega, by omega, rfl, by rw [htk]; simp only [untW, List.append_assoc]; rfl⟩
    · refine CmpW.N ?_
      refine gos ?_
      refine AC.go tab ?_
      refine gos ?_
      have : i = t.units.length := by omega
      subst this
      exact ⟨_, 3, fgts, rv, rfl, by rw [List.take_length]; simp only [listW, List.append_assoc]; rfl⟩
  rintro e h ⟨rv6, rfl, rfl⟩
  refine AC.step tab ?_
  refine gos ?_
  refine CallW.wrt (i := 1) (j := 2) (by decide) rfl rfl (layTexts_does v1 rv6 t.munit _ b4 (by simp only [List.length_append]; omega)) rfl (fun rv7 => ?_)
  refine gos ?_
  refine AC.go tab ?_
  refine gos ?_
  refine CallW.wrt (i := 1) (j := 2) (by decide) rfl rfl ((WString_does v1 rv7 _ (by simp only [List.length_append]; omega)).mono (fun ae O h => ⟨h.1, rv7, h.2⟩)) rfl (fun rv8 => ?_)
  refine gos ?_
  refine RetW.plain (by simp) ?_
  rw [hS3, enc4, enc5]
  simp only [ren, List.append_assoc]
end Go.Proofs.YtpbjjhpihhnomaaGreatDoor

namespace Go.Proofs.YtpbjjhpihhnomaaGreatDoor
open Go Go.Abs
attribute [local irreducible] DrawW CallW RetW AC Does CmpW
variable {G : Globs}
theorem bnd1 {α β : Type} (f : Rd → α × Rd) (g : α → Rd → β × Rd) (r : Rd) : bnd f g r = g (f r).1 (f r).2 := rfl
theorem readTexts1_does (v vc : Nat) (r : Rd) (hk : r.ok) (hs : r.s.length < 4294967296) : Does Tryz.prog G 226 ([] ++ [] ++ [.ptr 1 vc 0 0]) [some (rdO v r), some (rcO vc v)]
    fun ae O => ae = .ret (.agg (encT (txtRd r).1)) ∧ O = [some (rdO v (txtRd r).2), some (rcO vc v)] := by
  obtain ⟨k1, k2⟩ := num_keeps r hk
  have dN := Num_does (G := G) v r hk hs
  have dT := Text_does (G := G) v (numRd r).2 k1 (by rw [k2]; exact hs)
  have e1 : txtRd r = (⟨((numRd r).1 : Int), (textRd (numRd r).2).1⟩, (textRd (numRd r).2).2) := rfl
  rw [e1]
  generalize numRd r = x at *
  generalize textRd x.2 = y at *
  refine Does.body tab Tryz.func226 rfl rfl ?_
  refine gos ?_
  intro v1
  refine gos ?_
  refine DrawW.P (.take 0 (.fork (.cons 1 (.take 2 (.take 3 (.take 4 (.take 5 .done)))) (.cons 2 (.take 1 (.take 3 (.take 4 (.take 5 .done)))) .nil)))) ?_
  refine gos ?_
  refine And.intro ?_ (And.intro ?_ trivial)
  all_goals
    refine gos ?_
    refine CallW.meth 0 dN rfl rfl rfl rfl rfl rfl ?_
    refine gos ?_
    refine CallW.meth 0 dT rfl rfl rfl rfl rfl rfl ?_
    refine gos ?_
    refine RetW.plain (by simp) ?_
    exact ⟨rfl, rfl⟩
theorem readTexts_does (v : Nat) (r : Rd) (hk : r.ok) (hs : r.s.length < 4294967296) : Does Tryz.prog G 174 [.ptr 0 v 0 0] [some (rdO v r)]
    fun ae O => ae = .ret (txtL (listRd txtRd r).1) ∧ O = [some (rdO v (listRd txtRd r).2)] := by
  refine Does.body tab Tryz.func174 rfl rfl ?_
  refine gos ?_
  intro vc
  refine gos ?_
  refine CallW.rc (i := 0) (j := 1) (by decide) rfl rfl (listT_does v vc 226 txtRd txt_keeps (readTexts1_does v vc) r hk hs) rfl rfl rfl rfl rfl ?_
  refine gos ?_
  refine RetW.plain (by simp) ?_
  exact ⟨rfl, rfl⟩
theorem readRows1_does (v vc : Nat) (r : Rd) (hk : r.ok) (hs : r.s.length < 4294967296) : Does Tryz.prog G 222 ([] ++ [] ++ [.ptr 1 vc 0 0]) [some (rdO v r), some (rcO vc v)]
    fun ae O => ae = .ret (.agg (encR (rowRd r).1)) ∧ O = [some (rdO v (rowRd r).2), some (rcO vc v)] := by
  obtain ⟨k1, k2⟩ := num_keeps r hk
  have dN := Num_does (G := G) v r hk hs
  have dT := readTexts_does (G := G) v (numRd r).2 k1 (by rw [k2]; exact hs)
  have e1 : rowRd r = (⟨((numRd r).1 : Int), (listRd txtRd (numRd r).2).1⟩, (listRd txtRd (numRd r).2).2) := rfl
  rw [e1]
  generalize numRd r = x at *
  generalize listRd txtRd x.2 = y at *
  refine Does.body tab Tryz.func222 rfl rfl ?_
  refine gos ?_
  intro v1
  refine gos ?_
  refine DrawW.P (.take 0 (.fork (.cons 1 (.take 2 (.take 3 (.take 4 (.take 5 .done)))) (.cons 2 (.take 1 (.take 3 (.take 4 (.take 5 .done)))) .nil)))) ?_
  refine gos ?_
  refine And.intro ?_ (And.intro ?_ trivial)
  all_goals
    refine gos ?_
    refine CallW.meth 0 dN rfl rfl rfl rfl rfl rfl ?_
    refine gos ?_
    refine CallW.meth 0 dT rfl rfl rfl rfl rfl rfl ?_
    refine gos ?_
    refine RetW.plain (by simp) ?_
    exact ⟨rfl, rfl⟩
theorem readRows_does (v : Nat) (r : Rd) (hk : r.ok) (hs : r.s.length < 4294967296) : Does Tryz.prog G 171 [.ptr 0 v 0 0] [some (rdO v r)]
    fun ae O => ae = .ret (rowL (listRd rowRd r).1) ∧ O = [some (rdO v (listRd rowRd r).2)] := by
  refine Does.body tab Tryz.func171 rfl rfl ?_
  refine gos ?_
  intro vc
  refine gos ?_
  refine CallW.rc (i := 0) (j := 1) (by decide) rfl rfl (listR_does v vc 222 rowRd row_keeps (readRows1_does v vc) r hk hs) rfl rfl rfl rfl rfl ?_
  refine gos ?_
  refine RetW.plain (by simp) ?_
  exact ⟨rfl, rfl⟩
theorem Decode2_does (v vc : Nat) (r : Rd) (hk : r.ok) (hs : r.s.length < 4294967296) : Does Tryz.prog G 176 ([] ++ [] ++ [.ptr 1 vc 0 0]) [some (rdO v r), some (rcO vc v)]
    fun ae O => ae = .ret (.agg (encU (untRd r).1)) ∧ O = [some (rdO v (untRd r).2), some (rcO vc v)] := by
  obtain ⟨k1, k2⟩ := text_keeps r hk
  have dN := Text_does (G := G) v r hk hs
  have dT := readTexts_does (G := G) v (textRd r).2 k1 (by rw [k2]; exact hs)
  have e1 : untRd r = (⟨(textRd r).1, (listRd txtRd (textRd r).2).1⟩, (listRd txtRd (textRd r).2).2) := rfl
  rw [e1]
  generalize textRd r = x at *
  generalize listRd txtRd x.2 = y at *
  refine Does.body tab Tryz.func176 rfl rfl ?_
  refine gos ?_
  intro v1
  refine gos ?_
  refine DrawW.P (.take 0 (.fork (.cons 1 (.take 2 (.take 3 (.take 4 (.take 5 .done)))) (.cons 2 (.take 1 (.take 3 (.take 4 (.take 5 .done)))) .nil)))) ?_
  refine gos ?_
  refine And.intro ?_ (And.intro ?_ trivial)
  all_goals
    refine gos ?_
    refine CallW.meth 0 dN rfl rfl rfl rfl rfl rfl ?_
    refine gos ?_
    refine CallW.meth 0 dT rfl rfl rfl rfl rfl rfl ?_
    refine gos ?_
    refine RetW.plain (by simp) ?_
    exact ⟨rfl, rfl⟩
end Go.Proofs.YtpbjjhpihhnomaaGreatDoor
