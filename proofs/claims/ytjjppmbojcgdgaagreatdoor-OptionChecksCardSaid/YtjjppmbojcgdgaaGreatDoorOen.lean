/- Options are laid as bytes, and read from them. -/
import Derived.Test.YtjjppmbojcgdgaaGreatDoorDcq
import Derived.Test.YtjjppmbojcgdgaaGreatDoorOfn
import Derived.Test.YtjjppmbojcgdgaaGreatDoorJ17
import Derived.Test.YtjjppmbojcgdgaaGreatDoorJ21
set_option linter.unusedVariables false
set_option linter.unusedSimpArgs false
set_option maxRecDepth 100000
set_option maxHeartbeats 4000000
namespace Go.Proofs.YtjjppmbojcgdgaaGreatDoor
open Go Go.Abs
attribute [local irreducible] DrawW CallW RetW AC Does CmpW
variable {G : Globs} {m : Int}

theorem flag22_does (b : Bool) : Does Tryz.prog G 133 [.bool b] [] fun ae _ => ae = .ret (.int .i64 (flagI b)) := by
 refine Does.body tab Tryz.func133 rfl rfl ?_
 cases b
 · refine gos ?_
   refine RetW.plain (by simp) ?_
   rfl
 · refine gos ?_
   refine RetW.plain (by simp) ?_
   rfl
theorem lq {p : Prop} (h : p := by simp only [List.length_append, List.length_nil]; omega) : p := h
theorem numW_le (n : Int) : (numW n).length ≤ 10 := len_numL 10 n.toNat
theorem textW_le (s : List UInt8) : (textW s).length ≤ 10 + s.length := by
 have := numW_le s.length
 rw [textW, List.length_append]; omega
/-- Options within an int's reach. -/
structure TOpt.small (o : TOpt) : Prop where
 st : o.style < 9223372036854775808
 co : o.compact < 9223372036854775808
 cd : o.code.length ≤ 1000
 un : o.unit.length ≤ 1000
 sy : o.sym < 9223372036854775808
 mo : o.mode < 9223372036854775808
 ki : o.prec.kind < 9223372036854775808
 mi : o.prec.min < 9223372036854775808
 ma : o.prec.max < 9223372036854775808
 ic : o.prec.inc.digits.length ≤ 1000
 pm : o.prec.mode < 9223372036854775808
 pi : o.prec.minInt < 9223372036854775808
theorem flag_lt (b : Bool) : flagI b < 9223372036854775808 := by cases b <;> decide

theorem OEncode_does (o : TOpt) (h : o.small) : Does Tryz.prog (GP m) 45 [.agg o.cells] [] fun ae _ => ae = .ret (.str (encO o)) := by
 have dS := DString_does (m := m) o.prec.inc (by have := h.ic; omega)
 have lS := strD_len o.prec.inc
 have hic := h.ic
 have hcd := h.cd
 have hun := h.un
 have n1 := numW_le o.style
 have n2 := numW_le o.compact
 have n3 := textW_le o.code
 have n4 := textW_le o.unit
 have n5 := numW_le o.sym
 have n6 := numW_le (flagI o.cash)
 have n7 := numW_le o.mode
 have n8 := numW_le (flagI o.plain)
 have n9 := numW_le (flagI o.own)
 have n10 := numW_le o.prec.kind
 have n11 := numW_le o.prec.min
 have n12 := numW_le o.prec.max
 have n13 := textW_le (strD o.prec.inc)
 have n14 := numW_le o.prec.mode
 have n15 := numW_le o.prec.minInt
 have hE : encO o = ((((((((((((((([] ++ numW o.style) ++ numW o.compact) ++ textW o.code) ++ textW o.unit) ++ numW o.sym) ++ numW (flagI o.cash)) ++ numW o.mode) ++ numW (flagI o.plain)) ++ numW (flagI o.own)) ++ numW o.prec.kind) ++ numW o.prec.min) ++ numW o.prec.max) ++ textW (strD o.prec.inc)) ++ numW o.prec.mode) ++ numW o.prec.minInt) := by unfold encO; simp only [List.append_assoc, List.nil_append, List.append_nil]
 rw [hE]
 refine Does.bodyA tab Tryz.func45 rfl rfl ?_
 refine AC.step tab ?_
 refine gos ?_
 intro v0
 refine gos ?_
 refine AC.step tab ?_
 refine gos ?_
 intro v1
 refine gos ?_
 refine AC.wk (Wk.ptr (k := 1) (i := 0) rfl rfl rfl rfl rfl) ?_
 refine AC.ownC 1 0 5 1 rfl rfl rfl (by omega) fun r0 => ?_
 refine AC.cutF tab (fun e h => ∃ rv, e = (List.replicate 1 .any ++ [.fptr o.cells] ++ List.replicate 1 .any ++ [.ptr 1 v1 0 0] ++ List.replicate 57 .any) ∧ h = encH v1 rv ((((((((([] ++ numW o.style) ++ numW o.compact) ++ textW o.code) ++ textW o.unit) ++ numW o.sym) ++ numW (flagI o.cash)) ++ numW o.mode) ++ numW (flagI o.plain)) ++ numW (flagI o.own))) ?_ ?_
 · refine gos ?_
   refine DrawW.P (.take 0 (.take 1 (.takeF 2 (.take 4 (.takeF 5 (.take 7 (.takeF 8 (.take 10 (.takeF 11 (.take 13 (.takeF 14 (.take 16 (.takeF 17 (.take 20 (.takeF 21 (.take 23 (.takeF 24 (.take 27 (.takeF 28 (.take 3 (.take 6 (.take 9 (.take 12 (.take 15 (.take 18 (.take 19 (.take 22 (.take 25 (.take 26 (.take 29 (.take 30 .done))))))))))))))))))))))))))))))) ?_
   refine gos ?_
   refine CallW.wrt (i := 1) (j := 2) (by decide) rfl rfl (WNum_does v1 r0 o.style [] h.st (by simp)) rfl (fun r1 => ?_)
   refine gos ?_
   refine CallW.wrt (i := 1) (j := 2) (by decide) rfl rfl (WNum_does v1 r1 o.compact _ h.co lq) rfl (fun r2 => ?_)
   refine gos ?_
   refine CallW.wrt (i := 1) (j := 2) (by decide) rfl rfl (WText_does v1 r2 o.code _ (by omega) lq) rfl (fun r3 => ?_)
   refine gos ?_
   refine CallW.wrt (i := 1) (j := 2) (by decide) rfl rfl (WText_does v1 r3 o.unit _ (by omega) lq) rfl (fun r4 => ?_)
   refine gos ?_
   refine CallW.wrt (i := 1) (j := 2) (by decide) rfl rfl (WNum_does v1 r4 o.sym _ h.sy lq) rfl (fun r5 => ?_)
   refine gos ?_
   refine CallW.pure (flag22_does o.cash) rfl rfl ?_
   refine gos ?_
   refine CallW.wrt (i := 1) (j := 2) (by decide) rfl rfl (WNum_does v1 r5 (flagI o.cash) _ (flag_lt _) lq) rfl (fun r6 => ?_)
   refine gos ?_
   refine CallW.wrt (i := 1) (j := 2) (by decide) rfl rfl (WNum_does v1 r6 o.mode _ h.mo lq) rfl (fun r7 => ?_)
   refine gos ?_
   refine CallW.pure (flag22_does o.plain) rfl rfl ?_
   refine gos ?_
   refine CallW.wrt (i := 1) (j := 2) (by decide) rfl rfl (WNum_does v1 r7 (flagI o.plain) _ (flag_lt _) lq) rfl (fun r8 => ?_)
   refine gos ?_
   refine CallW.pure (flag22_does o.own) rfl rfl ?_
   refine gos ?_
   refine CallW.wrt (i := 1) (j := 2) (by decide) rfl rfl (WNum_does v1 r8 (flagI o.own) _ (flag_lt _) lq) rfl (fun r9 => ?_)
   refine gos ?_
   exact ⟨_, 3, fgts, r9, rfl, rfl⟩
 rintro e h ⟨rv, rfl, rfl⟩
 refine AC.step tab ?_
 refine gos ?_
 intro v3
 refine gos ?_
 refine AC.wk (Wk.ptr (k := 4) (i := 3) rfl rfl rfl rfl rfl) ?_
 refine AC.go tab ?_
 refine gos ?_
 refine DrawW.P (.take 0 (.take 1 (.takeF 2 (.take 4 (.takeF 5 (.take 7 (.takeF 8 (.take 10 (.takeF 11 (.take 14 (.takeF 15 (.take 17 (.takeF 18 (.take 3 (.take 6 (.take 9 (.take 12 (.take 13 (.take 16 (.take 19 (.take 20 (.take 21 .done)))))))))))))))))))))) ?_
 refine gos ?_
 refine CallW.wrt (i := 1) (j := 2) (by decide) rfl rfl (WNum_does v1 rv o.prec.kind _ h.ki lq) rfl (fun r10 => ?_)
 refine gos ?_
 refine CallW.wrt (i := 1) (j := 2) (by decide) rfl rfl (WNum_does v1 r10 o.prec.min _ h.mi lq) rfl (fun r11 => ?_)
 refine gos ?_
 refine CallW.wrt (i := 1) (j := 2) (by decide) rfl rfl (WNum_does v1 r11 o.prec.max _ h.ma lq) rfl (fun r12 => ?_)
 refine gos ?_
 refine CallW.pure dS rfl rfl ?_
 refine gos ?_
 refine CallW.wrt (i := 1) (j := 2) (by decide) rfl rfl (WText_does v1 r12 (strD o.prec.inc) _ (by omega) lq) rfl (fun r13 => ?_)
 refine gos ?_
 refine CallW.wrt (i := 1) (j := 2) (by decide) rfl rfl (WNum_does v1 r13 o.prec.mode _ h.pm lq) rfl (fun r14 => ?_)
 refine gos ?_
 refine CallW.wrt (i := 1) (j := 2) (by decide) rfl rfl (WNum_does v1 r14 o.prec.minInt _ h.pi lq) rfl (fun r15 => ?_)
 refine gos ?_
 refine CallW.wrt (i := 1) (j := 2) (by decide) rfl rfl ((WString_does v1 r15 _ lq).mono (fun ae O h => ⟨h.1, r15, h.2⟩)) rfl (fun rs => ?_)
 refine gos ?_
 refine RetW.plain (by simp) ?_
 rfl
theorem RFail_does (v : Nat) (r : Rd) : Does Tryz.prog G 209 [.ptr 0 v 0 0] [some (rdO v r)] fun ae O => ae = .ret (.tuple []) ∧ O = [some (rdO v { r with bad := true })] := by
 refine Does.body tab Tryz.func209 rfl rfl ?_
 refine gos ?_
 refine RetW.plain (by simp) ?_
 exact ⟨rfl, rfl⟩
theorem made_dig (neg : Bool) (s : List UInt8) (e : Int) : (madeD neg s e).digits.length ≤ s.length := by
 unfold madeD
 split
 · simp [zeroD]
 · have h1 := trimR_len (trimF s)
   have h2 := trimF_len s
   dsimp only; omega
theorem parX_dig (neg : Bool) (w p l : List UInt8) : (parX neg w p l).1.digits.length ≤ 1000 := by
 unfold parX
 split
 · simp [zeroD]
 split
 · simp [zeroD]
 · rename_i h
   simp only [not_or] at h
   refine Nat.le_trans (made_dig _ _ _) ?_
   rw [List.length_append]; omega
theorem par_dig (s : List UInt8) : (parD s).1.digits.length ≤ 1000 := by
 unfold parD parW
 split
 · simp [zeroD]
 split
 · split
   · simp [zeroD]
   · exact parX_dig _ _ _ _
 · exact parX_dig _ _ _ _
theorem textRd_len (r : Rd) (hk : r.ok) : (textRd r).1.length ≤ r.s.length := by
 obtain ⟨a1, a2⟩ := num_keeps r hk
 unfold textRd
 simp only
 split
 · simp
 · rw [List.length_take, List.length_drop, a2]; omega
theorem oinc_does (v : Nat) (r : Rd) (hk : r.ok) (hs : r.s.length < 100000) : Does Tryz.prog (GP m) 139 [.ptr 0 v 0 0] [some (rdO v r)] fun ae O => ae = .ret (.agg (incRd r).1.cells) ∧ O = [some (rdO v (incRd r).2)] := by
 have dT := Text_does (G := GP m) v r hk (by omega)
 have hl : (textRd r).1.length ≤ r.s.length := textRd_len r hk
 have hq := par_dig (textRd r).1
 have dP := DParse_does (G := GP m) (textRd r).1 (by omega)
 unfold incRd
 generalize textRd r = x at *
 obtain ⟨s, r1⟩ := x
 dsimp only at *
 generalize parD s = y at *
 obtain ⟨d, e⟩ := y
 dsimp only at *
 have dS := DString_does (m := m) d (by omega)
 have dF := RFail_does (G := GP m) v r1
 generalize strD d = w at *
 refine Does.bodyA tab Tryz.func139 rfl rfl ?_
 refine AC.step tab ?_
 refine gos ?_
 intro v2
 refine gos ?_
 refine AC.step tab ?_
 refine gos ?_
 refine CallW.meth 0 dT rfl rfl rfl rfl rfl rfl ?_
 refine gos ?_
 refine AC.step tab ?_
 refine gos ?_
 refine CallW.pure dP rfl rfl ?_
 refine gos ?_
 intro v4
 refine gos ?_
 refine AC.cutF tab (fun e' h => e' = (List.replicate 2 .any ++ [.ptr 1 v2 0 0] ++ List.replicate 1 .any ++ [.ptr 2 v4 0 0] ++ List.replicate 19 .any) ∧ h = [some (rdO v (if e = 0 ∧ w = s then r1 else { r1 with bad := true })), some ⟨v2, 104, 3, [[.bool false, .str [], .int .i64 0]]⟩, some ⟨v4, 104, 3, [d.cells]⟩]) ?_ ?_
 · refine gos ?_
   by_cases h1 : e = 0
   · refine CmpW.f (by simpa using h1) ?_
     refine gos ?_
     refine CallW.pure dS rfl rfl ?_
     refine gos ?_
     by_cases h2 : w = s
     · refine CmpW.f (by simpa using h2) ?_
       refine gos ?_
       rw [if_pos ⟨h1, h2⟩]
       exact ⟨_, 3, fgts, rfl, rfl⟩
     · refine CmpW.t (by simpa using h2) ?_
       refine gos ?_
       refine CallW.meth 0 dF rfl rfl rfl rfl rfl rfl ?_
       refine gos ?_
       rw [if_neg (fun h => h2 h.2)]
       exact ⟨_, 3, fgts, rfl, rfl⟩
   · refine CmpW.t (by simpa using h1) ?_
     refine gos ?_
     refine CallW.meth 0 dF rfl rfl rfl rfl rfl rfl ?_
     refine gos ?_
     rw [if_neg (fun h => h1 h.1)]
     exact ⟨_, 3, fgts, rfl, rfl⟩
 rintro e' h ⟨rfl, rfl⟩
 refine AC.go tab ?_
 refine gos ?_
 refine RetW.plain (by simp) ?_
 by_cases h : e = 0 ∧ w = s
 · simp only [if_pos h]
   exact ⟨rfl, rfl⟩
 · simp only [if_neg h]
   exact ⟨rfl, rfl⟩
theorem inc_keeps : Keeps incRd := fun r h => by
 obtain ⟨a1, a2⟩ := text_keeps r h
 unfold incRd
 split
 · exact ⟨a1, a2⟩
 · exact ⟨a1, a2⟩
theorem beq1 (x : Nat) : ((x : Int) == 1) = decide (x = 1) := by rw [Bool.eq_iff_iff]; simp; omega
def zeroP : TPrec := ⟨0, 0, 0, zeroD, 0, 0⟩
def zeroO : TOpt := ⟨0, 0, [], [], 0, false, 0, false, zeroP, false⟩
/-- What Decode answers. -/
def resO (s : List UInt8) : TOpt × Int :=
 if (decO ⟨s, 0, false⟩).2.bad = false ∧ (decO ⟨s, 0, false⟩).2.p = (decO ⟨s, 0, false⟩).2.s.length then ((decO ⟨s, 0, false⟩).1, 0) else (zeroO, 1)

theorem ODecode_does (s : List UInt8) (hs : s.length < 100000) : Does Tryz.prog (GP m) 47 [.str s] [] fun ae _ => ae = .ret (.tuple [.agg (resO s).1.cells, .int .i64 (resO s).2]) := by
 obtain ⟨r0, hr0⟩ : ∃ r0 : Rd, r0 = ⟨s, 0, false⟩ := ⟨_, rfl⟩
 have k0 : r0.ok ∧ r0.s = s := by rw [hr0]; exact ⟨Nat.zero_le _, rfl⟩
 unfold resO
 rw [← hr0]
 obtain ⟨xa, r1, e1⟩ : ∃ x r, numRd r0 = (x, r) := ⟨_, _, rfl⟩
 have k1 := num_keeps r0 k0.1
 rw [e1, k0.2] at k1
 dsimp only at k1
 obtain ⟨xb, r2, e2⟩ : ∃ x r, numRd r1 = (x, r) := ⟨_, _, rfl⟩
 have k2 := num_keeps r1 k1.1
 rw [e2, k1.2] at k2
 dsimp only at k2
 obtain ⟨xc, r3, e3⟩ : ∃ x r, textRd r2 = (x, r) := ⟨_, _, rfl⟩
 have k3 := text_keeps r2 k2.1
 rw [e3, k2.2] at k3
 dsimp only at k3
 obtain ⟨xd, r4, e4⟩ : ∃ x r, textRd r3 = (x, r) := ⟨_, _, rfl⟩
 have k4 := text_keeps r3 k3.1
 rw [e4, k3.2] at k4
 dsimp only at k4
 obtain ⟨xe, r5, e5⟩ : ∃ x r, numRd r4 = (x, r) := ⟨_, _, rfl⟩
 have k5 := num_keeps r4 k4.1
 rw [e5, k4.2] at k5
 dsimp only at k5
 obtain ⟨xf, r6, e6⟩ : ∃ x r, countRd 1 r5 = (x, r) := ⟨_, _, rfl⟩
 have k6 := count_keeps 1 r5 k5.1
 rw [e6, k5.2] at k6
 dsimp only at k6
 obtain ⟨xg, r7, e7⟩ : ∃ x r, numRd r6 = (x, r) := ⟨_, _, rfl⟩
 have k7 := num_keeps r6 k6.1
 rw [e7, k6.2] at k7
 dsimp only at k7
 obtain ⟨xh, r8, e8⟩ : ∃ x r, countRd 1 r7 = (x, r) := ⟨_, _, rfl⟩
 have k8 := count_keeps 1 r7 k7.1
 rw [e8, k7.2] at k8
 dsimp only at k8
 obtain ⟨xi, r9, e9⟩ : ∃ x r, countRd 1 r8 = (x, r) := ⟨_, _, rfl⟩
 have k9 := count_keeps 1 r8 k8.1
 rw [e9, k8.2] at k9
 dsimp only at k9
 obtain ⟨xj, r10, e10⟩ : ∃ x r, numRd r9 = (x, r) := ⟨_, _, rfl⟩
 have k10 := num_keeps r9 k9.1
 rw [e10, k9.2] at k10
 dsimp only at k10
 obtain ⟨xk, r11, e11⟩ : ∃ x r, numRd r10 = (x, r) := ⟨_, _, rfl⟩
 have k11 := num_keeps r10 k10.1
 rw [e11, k10.2] at k11
 dsimp only at k11
 obtain ⟨xl, r12, e12⟩ : ∃ x r, numRd r11 = (x, r) := ⟨_, _, rfl⟩
 have k12 := num_keeps r11 k11.1
 rw [e12, k11.2] at k12
 dsimp only at k12
 obtain ⟨xq, r13, e13⟩ : ∃ x r, incRd r12 = (x, r) := ⟨_, _, rfl⟩
 have k13 := inc_keeps r12 k12.1
 rw [e13, k12.2] at k13
 dsimp only at k13
 obtain ⟨xn, r14, e14⟩ : ∃ x r, numRd r13 = (x, r) := ⟨_, _, rfl⟩
 have k14 := num_keeps r13 k13.1
 rw [e14, k13.2] at k14
 dsimp only at k14
 obtain ⟨xo, r15, e15⟩ : ∃ x r, numRd r14 = (x, r) := ⟨_, _, rfl⟩
 have k15 := num_keeps r14 k14.1
 rw [e15, k14.2] at k15
 dsimp only at k15
 have hD : decO r0 = (⟨xa, xb, xc, xd, xe, decide (xf = 1), xg, decide (xi = 1), ⟨xj, xk, xl, xq, xn, xo⟩, decide (xh = 1)⟩, r15) := by
  simp only [decO, bnd, rtn, numI, flagRd, e1, e2, e3, e4, e5, e6, e7, e8, e9, e10, e11, e12, e13, e14, e15]
 rw [hD]
 dsimp only
 clear hD
 refine Does.bodyA tab Tryz.func47 rfl rfl ?_
 refine AC.step tab ?_
 refine gos ?_
 intro v0
 refine gos ?_
 refine AC.slot ?_
 refine AC.step tab ?_
 refine gos ?_
 refine CallW.fresh 1 (mk := fun N => rdO N ⟨s, 0, false⟩) (New_does s) rfl rfl (fun N => rfl) (fun vr => ?_)
 refine gos ?_
 rw [← hr0]
 have d1 := Num_does (G := GP m) vr r0 k0.1 (by rw [k0.2]; omega)
 rw [e1] at d1
 dsimp only at d1
 have d2 := Num_does (G := GP m) vr r1 k1.1 (by rw [k1.2]; omega)
 rw [e2] at d2
 dsimp only at d2
 have d3 := Text_does (G := GP m) vr r2 k2.1 (by rw [k2.2]; omega)
 rw [e3] at d3
 dsimp only at d3
 have d4 := Text_does (G := GP m) vr r3 k3.1 (by rw [k3.2]; omega)
 rw [e4] at d4
 dsimp only at d4
 have d5 := Num_does (G := GP m) vr r4 k4.1 (by rw [k4.2]; omega)
 rw [e5] at d5
 dsimp only at d5
 have d6 := Count_does (G := GP m) vr r5 1 (by decide) k5.1 (by rw [k5.2]; omega)
 rw [e6] at d6
 dsimp only at d6
 have d7 := Num_does (G := GP m) vr r6 k6.1 (by rw [k6.2]; omega)
 rw [e7] at d7
 dsimp only at d7
 have d8 := Count_does (G := GP m) vr r7 1 (by decide) k7.1 (by rw [k7.2]; omega)
 rw [e8] at d8
 dsimp only at d8
 have d9 := Count_does (G := GP m) vr r8 1 (by decide) k8.1 (by rw [k8.2]; omega)
 rw [e9] at d9
 dsimp only at d9
 have d10 := Num_does (G := GP m) vr r9 k9.1 (by rw [k9.2]; omega)
 rw [e10] at d10
 dsimp only at d10
 have d11 := Num_does (G := GP m) vr r10 k10.1 (by rw [k10.2]; omega)
 rw [e11] at d11
 dsimp only at d11
 have d12 := Num_does (G := GP m) vr r11 k11.1 (by rw [k11.2]; omega)
 rw [e12] at d12
 dsimp only at d12
 have d13 := oinc_does (m := m) vr r12 k12.1 (by rw [k12.2]; omega)
 rw [e13] at d13
 dsimp only at d13
 have d14 := Num_does (G := GP m) vr r13 k13.1 (by rw [k13.2]; omega)
 rw [e14] at d14
 dsimp only at d14
 have d15 := Num_does (G := GP m) vr r14 k14.1 (by rw [k14.2]; omega)
 rw [e15] at d15
 dsimp only at d15
 refine AC.cutF tab (fun e' h => ∃ v5, e' = (List.replicate 2 .any ++ [.ptr 0 v0 0 0] ++ List.replicate 1 .any ++ [.ptr 1 vr 0 0, .ptr 2 v5 0 0] ++ List.replicate 43 .any) ∧ h = [some ⟨v0, 108, 17, [zeroO.cells]⟩, some (rdO vr r9), some ⟨v5, 108, 17, [(⟨xa, xb, xc, xd, xe, decide (xf = 1), xg, decide (xi = 1), zeroP, decide (xh = 1)⟩ : TOpt).cells]⟩]) ?_ ?_
 · refine gos ?_
   refine CallW.meth 1 d1 rfl rfl rfl rfl rfl rfl ?_
   refine gos ?_
   refine CallW.meth 1 d2 rfl rfl rfl rfl rfl rfl ?_
   refine gos ?_
   refine CallW.meth 1 d3 rfl rfl rfl rfl rfl rfl ?_
   refine gos ?_
   refine CallW.meth 1 d4 rfl rfl rfl rfl rfl rfl ?_
   refine gos ?_
   refine CallW.meth 1 d5 rfl rfl rfl rfl rfl rfl ?_
   refine gos ?_
   refine CallW.meth 1 d6 rfl rfl rfl rfl rfl rfl ?_
   refine gos ?_
   refine CmpW.s ?_
   rw [beq1]
   refine gos ?_
   refine CallW.meth 1 d7 rfl rfl rfl rfl rfl rfl ?_
   refine gos ?_
   refine CallW.meth 1 d8 rfl rfl rfl rfl rfl rfl ?_
   refine gos ?_
   refine CmpW.s ?_
   rw [beq1]
   refine gos ?_
   refine CallW.meth 1 d9 rfl rfl rfl rfl rfl rfl ?_
   refine gos ?_
   refine CmpW.s ?_
   rw [beq1]
   refine gos ?_
   intro v5
   refine gos ?_
   exact ⟨_, 3, fgts, v5, rfl, rfl⟩
 rintro e' h ⟨v5, rfl, rfl⟩
 refine AC.cutF tab (fun e' h => e' = (List.replicate 2 .any ++ [.ptr 0 v0 0 0] ++ List.replicate 1 .any ++ [.ptr 1 vr 0 0, .ptr 2 v5 0 0] ++ List.replicate 43 .any) ∧ h = [some ⟨v0, 108, 17, [zeroO.cells]⟩, some (rdO vr r15), some ⟨v5, 108, 17, [(⟨xa, xb, xc, xd, xe, decide (xf = 1), xg, decide (xi = 1), ⟨xj, xk, xl, xq, xn, xo⟩, decide (xh = 1)⟩ : TOpt).cells]⟩]) ?_ ?_
 · refine gos ?_
   refine CallW.meth 1 d10 rfl rfl rfl rfl rfl rfl ?_
   refine gos ?_
   refine CallW.meth 1 d11 rfl rfl rfl rfl rfl rfl ?_
   refine gos ?_
   refine CallW.meth 1 d12 rfl rfl rfl rfl rfl rfl ?_
   refine gos ?_
   refine CallW.meth 1 d13 rfl rfl rfl rfl rfl rfl ?_
   refine gos ?_
   refine CallW.meth 1 d14 rfl rfl rfl rfl rfl rfl ?_
   refine gos ?_
   refine CallW.meth 1 d15 rfl rfl rfl rfl rfl rfl ?_
   refine gos ?_
   exact ⟨_, 3, fgts, rfl, rfl⟩
 rintro e' h ⟨rfl, rfl⟩
 have dD := Done_does (G := GP m) vr r15
 refine AC.go tab ?_
 refine gos ?_
 obtain ⟨b, hb⟩ : ∃ b : Bool, b = (!r15.bad && decide (r15.p = r15.s.length)) := ⟨_, rfl⟩
 rw [← hb] at dD
 refine CallW.meth 1 dD rfl rfl rfl rfl rfl rfl ?_
 have hb' : b = true ↔ (r15.bad = false ∧ r15.p = r15.s.length) := by rw [hb]; simp
 cases b
 · refine gos ?_
   refine RetW.plain (by simp) ?_
   rw [if_neg (fun h => by have := hb'.2 h; cases this)]
   rfl
 · refine gos ?_
   refine RetW.plain (by simp) ?_
   rw [if_pos (hb'.1 rfl)]
   rfl
end Go.Proofs.YtjjppmbojcgdgaaGreatDoor
