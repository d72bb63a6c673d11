/- The world in which a law begins, with one table more. -/
import Derived.Test.YtpipbjfcbbdicaaGreatDoorJ05
import Derived.Test.YtpipbjfcbbdicaaGreatDoorJ18
import Derived.Test.YtpipbjfcbbdicaaGreatDoorRows
import Derived.Lib.LaidU8
import Derived.ProofKit
set_option linter.unusedVariables false
set_option linter.unusedSimpArgs false
set_option maxRecDepth 100000
set_option maxHeartbeats 4000000

namespace Go.Proofs.YtpipbjfcbbdicaaGreatDoor
open Go Go.Abs
attribute [local irreducible] DrawW CallW RetW AC Does CmpW

def dbL : List Int := [0, 1, 56, 2, 57, 49, 28, 3, 61, 58, 42, 50, 38, 29, 17, 4, 62, 47, 59, 36, 45, 43, 51, 22, 53, 39, 33, 30, 24, 18, 12, 5, 63, 55, 48, 27, 60, 41, 37, 16, 46, 35, 44, 21, 52, 32, 23, 11, 54, 26, 40, 15, 34, 20, 31, 10, 25, 14, 19, 9, 13, 8, 7, 6]
def dbCells : List AV := dbL.map fun n => .int .u8 n
/-- The variables that are read, and one more. -/
def GD (m : Int) : Globs := (4, dbCells) :: GL m
variable {m : Int}
theorem tz64_does : Does Tryz.prog (GD m) 169 [.int .u64 16] [] fun ae _ => ae = .ret (.int .i64 4) := by
  refine Does.body tab Tryz.func169 rfl rfl ?_
  refine gos ?_
  refine And.intro (show (0 : Int) ≤ 58 by decide) ?_
  refine Exists.intro 15 (And.intro (by decide) ?_)
  refine gos ?_
  refine RetW.plain (by simp) ?_
  rfl
theorem tz_does : Does Tryz.prog (GD m) 153 [.int .u64 16] [] fun ae _ => ae = .ret (.int .i64 4) := by
  refine Does.body tab Tryz.func153 rfl rfl ?_
  refine gos ?_
  refine CallW.pure tz64_does rfl rfl ?_
  refine gos ?_
  refine RetW.plain (by simp) ?_
  rfl
theorem ispow_does : Does Tryz.prog (GD m) 152 [.int .i64 16] [] fun ae _ => ae = .ret (.bool true) := by
  refine Does.body tab Tryz.func152 rfl rfl ?_
  refine gos ?_
  refine RetW.plain (by simp) ?_
  rfl
def hx2d (d : Nat) : UInt8 := UInt8.ofNat (if d < 10 then 48 + d else 87 + d)
def hx2S (u : Nat) : List UInt8 := if u < 16 then [hx2d u] else [hx2d (u / 16), hx2d (u % 16)]
def digs16 : List UInt8 := [48, 49, 50, 51, 52, 53, 54, 55, 56, 57, 97, 98, 99, 100, 101, 102, 103, 104, 105, 106, 107, 108, 109, 110, 111, 112, 113, 114, 115, 116, 117, 118, 119, 120, 121, 122]
theorem digs16_get {d : Nat} (h : d < 16) : digs16[d]? = some (hx2d d) := by
  have : ∀ d : Fin 16, digs16[d.val]? = some (hx2d d.val) := by decide
  exact this ⟨d, h⟩
theorem and15 {u : Nat} (h : u < 256) : IntKind.u64.wrap (BitVec.ofInt IntKind.u64.bits (u : Int) &&& BitVec.ofInt IntKind.u64.bits 15).toNat = ((u % 16 : Nat) : Int) := by
  have : ∀ u : Fin 256, IntKind.u64.wrap (BitVec.ofInt IntKind.u64.bits (u.val : Int) &&& BitVec.ofInt IntKind.u64.bits 15).toNat = ((u.val % 16 : Nat) : Int) := by decide +kernel
  exact this ⟨u, h⟩
theorem fbits_does (u : Nat) (hu : u < 256) : Does Tryz.prog (GD m) 138 [.nils, .int .u64 u, .int .i64 16, .bool false, .bool false] [] fun ae _ => ae = .ret (.tuple [.nils, .str (hx2S u)]) := by
  refine Does.bodyA tab Tryz.func138 rfl rfl ?_
  refine AC.step tab ?_
  refine gos ?_
  refine AC.step tab ?_
  refine gos ?_
  refine AC.step tab ?_
  refine gos ?_
  intro v0
  refine gos ?_
  refine AC.step tab ?_
  refine gos ?_
  refine AC.step tab ?_
  refine gos ?_
  refine AC.cutF tab (fun e h => ∃ (i : Nat) (cs : List AV) (x2 : AV), (63 ≤ i ∧ i ≤ 64) ∧ (cs.length = 65 ∧ closedL cs = true ∧ cs.drop i = (hx2S u).map fun (b : UInt8) => AV.int .u8 (b.toNat : Int)) ∧ e = [.nils, x2, .int .i64 16, .bool false, .bool false, .any, .any, .any, .any, .any, .nils, .str [], .ptr 0 v0 0 0, .int .i64 i] ++ List.replicate 88 .any ∧ h = [some ⟨v0, 226, 65, [cs]⟩]) ?_ ?_
  · refine gos ?_
    refine CallW.pure ispow_does rfl rfl ?_
    refine And.intro (fun _ => ?_) (fun h => Bool.noConfusion h)
    refine ⟨16, rfl, ?_⟩
    refine CallW.pure tz_does rfl rfl ?_
    refine ⟨4, rfl, ?_⟩
    refine ⟨16, rfl, ?_⟩
    refine ⟨16, rfl, ?_⟩
    refine And.intro rfl ?_
    refine ⟨15, rfl, ?_⟩
    refine AC.rounds tab 2 ?_
    refine gos ?_
    by_cases h16 : u < 16
    · refine CmpW.N ?_
      refine gos ?_
      refine And.intro (by omega) ⟨hx2d u, by rw [Int.toNat_natCast]; exact digs16_get h16, ?_⟩
      refine gos ?_
      exact ⟨_, 1, fgts, 64, _, _, by omega, ⟨rfl, rfl, by simp [hx2S, h16]⟩, rfl, rfl⟩
    · refine CmpW.T ?_
      refine And.intro (fun _ => ?_) (fun h => Bool.noConfusion h)
      refine And.intro rfl ?_
      refine ⟨64, rfl, ?_⟩
      refine And.intro rfl ?_
      refine ⟨((u % 16 : Nat) : Int), and15 hu, ?_⟩
      refine And.intro (by omega) ⟨hx2d (u % 16), by rw [Int.toNat_natCast]; exact digs16_get (by omega), ?_⟩
      refine gos ?_
      refine And.intro (by decide) ⟨((u / 16 : Nat) : Int), by rw [show (2 : Int) ^ (min (Int.toNat 4) IntKind.u64.bits) = ((16 : Nat) : Int) from rfl, Int.fdiv_eq_ediv_of_nonneg _ (by omega)]; rfl, ?_⟩
      refine gos ?_
      refine CmpW.N ?_
      refine gos ?_
      refine And.intro (by omega) ⟨hx2d (u / 16), by rw [Int.toNat_natCast]; exact digs16_get (by omega), ?_⟩
      refine gos ?_
      exact ⟨_, 1, fgts, 63, _, _, by omega, ⟨rfl, rfl, by simp [hx2S, h16]⟩, rfl, rfl⟩
  rintro e h ⟨i, cs, x2, hi, ⟨hl, hc, hd⟩, rfl, rfl⟩
  refine AC.wk (Wk.ptr (k := 12) (i := 0) rfl rfl rfl rfl (by simp [closedLL, hc])) ?_
  refine AC.go tab ?_
  refine gos ?_
  refine And.intro ⟨rfl, by omega⟩ ?_
  refine And.intro ⟨by omega, by omega⟩ ?_
  have e1 : ((cs.take 65).drop (i : Int).toNat).map (fun c => [c]) = byteEs (hx2S u) := by
    rw [List.take_of_length_le (by omega), Int.toNat_natCast, hd, List.map_map]; rfl
  rw [e1]
  refine gos ?_
  refine RetW.plain (by simp) ?_
  rfl
theorem FmtII_does (u : Nat) (hu : u < 256) : Does Tryz.prog (GD m) 110 [.int .i64 u, .int .i64 16] [] fun ae _ => ae = .ret (.str (hx2S u)) := by
  refine Does.body tab Tryz.func110 rfl rfl ?_
  refine gos ?_
  rw [wrap_u64 (show 0 ≤ (u : Int) by omega) (by omega)]
  refine gos ?_
  refine CallW.pure (fbits_does u hu) rfl rfl ?_
  refine gos ?_
  refine RetW.plain (by simp) ?_
  rfl
theorem FmtI_does (u : Nat) (hu : u < 256) : Does Tryz.prog (GD m) 81 [.int .i64 u, .int .i64 16] [] fun ae _ => ae = .ret (.str (hx2S u)) := by
  refine Does.body tab Tryz.func81 rfl rfl ?_
  refine gos ?_
  refine CallW.pure (FmtII_does u hu) rfl rfl ?_
  refine gos ?_
  refine RetW.plain (by simp) ?_
  rfl
def plainCh (r : Nat) : Bool := (decide (48 ≤ r) && decide (r ≤ 57)) || (decide (65 ≤ r) && decide (r ≤ 90)) || (decide (97 ≤ r) && decide (r ≤ 122))
/-- How a code point is written. -/
def csignF (r : Nat) : List UInt8 := if plainCh r then [UInt8.ofNat r] else [92, 117, 123] ++ hx2S r ++ [125]
theorem enc_ascii {r : Nat} (h : r < 128) : (Utf8.encode (r : Int)).data.toList = [UInt8.ofNat r] := by
  have : ((List.range 128).all fun (r : Nat) => decide ((Utf8.encode (r : Int)).data.toList = [UInt8.ofNat r])) = true := by kernel_rfl
  exact of_decide_eq_true (List.all_eq_true.1 this r (List.mem_range.2 h))
theorem hx2S_len (u : Nat) : (hx2S u).length ≤ 2 := by unfold hx2S; split <;> simp
theorem csignF_len (r : Nat) : (csignF r).length ≤ 6 := by
  have := hx2S_len r
  unfold csignF; split <;> simp; omega
theorem csign_does (r : Nat) (hr : r < 256) : Does Tryz.prog (GD m) 55 [.int .i32 r] [] fun ae _ => ae = .ret (.str (csignF r)) := by
  have hs : csignF r = if plainCh r then [UInt8.ofNat r] else [92, 117, 123] ++ hx2S r ++ [125] := rfl
  have hx := hx2S_len r
  refine Does.bodyA tab Tryz.func55 rfl rfl ?_
  refine AC.step tab ?_
  refine gos ?_
  by_cases hp : plainCh r
  · rw [if_pos hp] at hs
    rw [hs]
    simp only [plainCh, Bool.or_eq_true, Bool.and_eq_true, decide_eq_true_eq] at hp
    refine AC.step tab ?_
    rcases hp with (hp | hp) | hp
    all_goals
      (repeat (first | refine gon ?_ | refine CmpW.T ?_ | refine CmpW.N ?_))
      refine RetW.plain (by simp) ?_
      exact congrArg (fun s => AEnd.ret (.str s)) (enc_ascii (by omega))
  · rw [if_neg hp] at hs
    rw [hs]
    simp only [plainCh, Bool.or_eq_true, Bool.and_eq_true, decide_eq_true_eq, not_or] at hp
    refine AC.cutF tab (fun e h => e = [.int .i32 r] ++ List.replicate 31 .any ∧ h = []) ?_ ?_
    · have : r < 48 ∨ (57 < r ∧ r < 65) ∨ (90 < r ∧ r < 97) ∨ 122 < r := by omega
      rcases this with hp | hp | hp | hp
      all_goals
        (repeat (first | refine gon ?_ | refine CmpW.T ?_ | refine CmpW.N ?_))
        exact ⟨_, 0, fgts, rfl, rfl⟩
    rintro e h ⟨rfl, rfl⟩
    refine AC.go tab ?_
    refine gos ?_
    refine CallW.pure (FmtI_does r hr) rfl rfl ?_
    have b1 : ((([92, 117, 123] : List UInt8).length + (hx2S r).length : Nat) : Int) ≤ 9223372036854775807 := by simp; omega
    have b2 : ((([92, 117, 123] ++ hx2S r : List UInt8).length + ([125] : List UInt8).length : Nat) : Int) ≤ 9223372036854775807 := by simp; omega
    refine gos ?_
    refine And.intro b1 ?_
    refine gos ?_
    refine And.intro b2 ?_
    refine gos ?_
    refine RetW.plain (by simp) ?_
    rfl
/-- How a class of single code points is written. -/
def clsS (l : List Rg) : List UInt8 := [91] ++ l.flatMap (fun x => csignF x.1.val) ++ [93]
theorem flat_len (l : List Rg) : (l.flatMap fun x => csignF x.1.val).length ≤ 6 * l.length := by
  induction l with
  | nil => simp
  | cons x l ih =>
    have := csignF_len x.1.val
    simp only [List.flatMap_cons, List.length_append, List.length_cons]
    omega
theorem CStr_does (l : List Rg) (hx : ∀ x ∈ l, x.1 = x.2 ∧ x.1.val < 256) (hl : l.length ≤ 1000) : Does Tryz.prog (GD m) 14 [.fsl (rgEs l)] [] fun ae _ => ae = .ret (.str (clsS l)) := by
  refine Does.bodyA tab Tryz.func14 rfl rfl ?_
  refine AC.step tab ?_
  refine gos ?_
  refine AC.step tab ?_
  refine gos ?_
  intro v0
  refine gos ?_
  intro v1
  refine gos ?_
  refine AC.cutF tab (fun e h => ∃ rv, e = [.fsl (rgEs l), .any, .str [], .ptr 1 v1 0 0] ++ List.replicate 26 .any ∧ h = [some ⟨rv, 5, 1, byteEs' [91]⟩, some (bldO 94 v1 (.ptr 1 v1 0 0) (.sl 0 rv))]) ?_ ?_
  · refine gos ?_
    refine CallW.bldW (i := 1) (j := 0) (by decide) .nil rfl rfl (fun a' h => WriteByte_does [] h 91 (by simp)) rfl rfl (fun rv => ?_)
    refine gos ?_
    exact ⟨_, 2, fgts, rv, rfl, rfl⟩
  rintro e h ⟨rv, rfl, rfl⟩
  refine AC.cutF tab (fun e h => ∃ rv, e = [.any, .any, .str [], .ptr 1 v1 0 0] ++ List.replicate 26 .any ∧ h = [some ⟨rv, 5, 1, byteEs' ([91] ++ l.flatMap (fun x => csignF x.1.val))⟩, some (bldO 94 v1 (.ptr 1 v1 0 0) (.sl 0 rv))]) ?_ ?_
  · refine gos ?_
    rw [rgEs_len]
    refine AC.loopC tab (fun f e h => ∃ (i rv : Nat), f + i = l.length + 1 ∧ i ≤ l.length ∧ e = [.any, .any, .str [], .ptr 1 v1 0 0, .any, .any, .any, .fsl (rgEs l), .int .i64 l.length, .int .i64 i] ++ List.replicate 20 .any ∧
        h = [some ⟨rv, 5, 1, byteEs' ([91] ++ (l.take i).flatMap (fun x => csignF x.1.val))⟩, some (bldO 94 v1 (.ptr 1 v1 0 0) (.sl 0 rv))]) (l.length + 1) ⟨_, fgts, 0, rv, by omega, by omega, rfl, rfl⟩ ?_
    rintro f e h ⟨i, rv, hf, hi, rfl, rfl⟩
    refine gos ?_
    by_cases hlt : i < l.length
    · obtain ⟨x, hget⟩ : ∃ x, l[i]? = some x := ⟨_, List.getElem?_eq_getElem hlt⟩
      obtain ⟨he, hb⟩ := hx x (List.mem_of_getElem? hget)
      have htake : (l.take (i + 1)).flatMap (fun x => csignF x.1.val) = (l.take i).flatMap (fun x => csignF x.1.val) ++ csignF x.1.val := by
        rw [List.take_add_one, hget]; simp
      have hlen := flat_len (l.take i)
      have htl : (l.take i).length ≤ 1000 := by rw [List.length_take]; omega
      have hs6 := csignF_len x.1.val
      refine CmpW.T ?_
      refine gos ?_
      refine And.intro (rgEs_two l) (And.intro (by omega) ⟨encG x, by rw [Int.toNat_natCast]; exact rgEs_get hget, ?_⟩)
      refine gos ?_
      intro v2
      refine gos ?_
      refine CallW.pure (csign_does x.1.val hb) rfl rfl ?_
      refine gos ?_
      refine CallW.bldW (i := 1) (j := 0) (by decide) .at_ rfl rfl (fun a' h => WriteString_does _ h (csignF x.1.val) (by simp only [List.length_append, List.length_singleton]; omega)) rfl rfl (fun rv' => ?_)
      refine gos ?_
      refine CmpW.f (by rw [he]; simp) ?_
      refine gos ?_
      exact ⟨f - 1, _, 2, by omega, fgts, i + 1, rv', by omega, by omega, rfl, by rw [htake]; simp only [List.append_assoc]; rfl⟩
    · refine CmpW.N ?_
      refine gos ?_
      have : i = l.length := by omega
      subst this
      exact ⟨_, 2, fgts, rv, rfl, by rw [List.take_length]; rfl⟩
  rintro e h ⟨rv, rfl, rfl⟩
  have hlen := flat_len l
  refine AC.go tab ?_
  refine gos ?_
  refine CallW.bldW (i := 1) (j := 0) (by decide) .at_ rfl rfl (fun a' h => WriteByte_does _ h 93 (by simp only [List.length_append, List.length_singleton]; omega)) rfl rfl (fun rv' => ?_)
  refine gos ?_
  refine CallW.bldS (i := 1) (j := 0) (by decide) .at_ rfl rfl (fun a' h => String_bld _ h) rfl rfl ?_
  refine gos ?_
  refine RetW.plain (by simp) ?_
  rfl
end Go.Proofs.YtpipbjfcbbdicaaGreatDoor

namespace Go.Proofs.YtpipbjfcbbdicaaGreatDoor
open Go Go.Abs

def longN (a : Nat) : List TRow := (List.range a).map fun (i : Nat) => ⟨(i : Int), oneT [48, 32, 120]⟩
def cursN (b : Nat) : List TCur := (List.range b).map fun (i : Nat) => ⟨[UInt8.ofNat (65 + i / 26), UInt8.ofNat (65 + i % 26), 88], [], [], [], 0, 0, 0, 0⟩
def unitsN (c : Nat) : List TUnt := (List.range c).map fun (i : Nat) => ⟨[UInt8.ofNat (97 + i / 26), UInt8.ofNat (97 + i % 26)], oneT [123, 48, 125]⟩
def rgN (d : Nat) : List Rg := (List.range d).map fun (i : Nat) => mkR (3 * i) (3 * i)
def aftN (x : TSpc) (d : Nat) : TSpc := { x with num := clsS (rgN d) }
def manyT (t : TTab) (a b c d : Nat) : TTab := { t with long := longN a, curs := cursN b, units := unitsN c, after := aftN t.after d }
def manyW (a b c d : Nat) : Int := if 16 < a then 7 else if 40 < b then 8 else if 40 < c then 9 else if 60 < d then 11 else 0

theorem four {p : Nat → Prop} (h0 : p 0) (h1 : p 1) (h2 : p 2) (h3 : p 3) {k : Nat} (hk : k ≤ 3) : p k := by
  have : k = 0 ∨ k = 1 ∨ k = 2 ∨ k = 3 := by omega
  rcases this with rfl | rfl | rfl | rfl <;> assumption
theorem made_rgN {k : Nat} (hk : k ≤ 3) : madeR (rgN (58 + k)) = rgN (58 + k) :=
  four (p := fun k => madeR (rgN (58 + k)) = rgN (58 + k)) (by kernel_rfl) (by kernel_rfl) (by kernel_rfl) (by kernel_rfl) hk
theorem rows_longN {k : Nat} (hk : k ≤ 3) : rowsF (longN (14 + k)) 0 = decide (14 + k ≤ 16) :=
  four (p := fun k => rowsF (longN (14 + k)) 0 = decide (14 + k ≤ 16)) (by kernel_rfl) (by kernel_rfl) (by kernel_rfl) (by kernel_rfl) hk
theorem curs_N {k : Nat} (hk : k ≤ 3) : (decide ((cursN (38 + k)).length ≤ 40) && allB (curP (cursN (38 + k))) (cursN (38 + k)).length) = decide (38 + k ≤ 40) :=
  four (p := fun k => (decide ((cursN (38 + k)).length ≤ 40) && allB (curP (cursN (38 + k))) (cursN (38 + k)).length) = decide (38 + k ≤ 40)) (by kernel_rfl) (by kernel_rfl) (by kernel_rfl) (by kernel_rfl) hk
theorem units_N {k : Nat} (hk : k ≤ 3) : (decide ((unitsN (38 + k)).length ≤ 40) && allB (untP (unitsN (38 + k))) (unitsN (38 + k)).length) = decide (38 + k ≤ 40) :=
  four (p := fun k => (decide ((unitsN (38 + k)).length ≤ 40) && allB (untP (unitsN (38 + k))) (unitsN (38 + k)).length) = decide (38 + k ≤ 40)) (by kernel_rfl) (by kernel_rfl) (by kernel_rfl) (by kernel_rfl) hk
theorem spc_N {k : Nat} (hk : k ≤ 3) : spcB (aftN befS (58 + k)) = decide (58 + k ≤ 60) :=
  four (p := fun k => spcB (aftN befS (58 + k)) = decide (58 + k ≤ 60)) (by kernel_rfl) (by kernel_rfl) (by kernel_rfl) (by kernel_rfl) hk
/-- What of a table's answer hangs on nothing that is made here. -/
def restB (t : TTab) : Bool := setF t.dg.list && (ckSign t && (ckPoint t && (inF t.minGroup 1 4 && (ckPat t && (ckRules t && (rowsF t.short 0 && (rowsF t.mshort 1 && (catsF t.munit (plcK 2 t.munit) && spcB t.before))))))))
theorem rest_base (n : Int) : restB (baseF n) = true ∧ (baseF n).after = befS := by
  unfold baseF
  split
  · exact ⟨by kernel_rfl, rfl⟩
  · split
    · exact ⟨by kernel_rfl, rfl⟩
    · exact ⟨by kernel_rfl, rfl⟩
theorem many_check {t : TTab} (h : restB t = true) (ha : t.after = befS) {a b c d : Nat} (h1 : a ≤ 3) (h2 : b ≤ 3) (h3 : c ≤ 3) (h4 : d ≤ 3) : checkF (manyT t (14 + a) (38 + b) (38 + c) (58 + d)) = manyW (14 + a) (38 + b) (38 + c) (58 + d) := by
  simp only [restB, Bool.and_eq_true] at h
  obtain ⟨k1, k2, k3, k4, k5, k6, k7, k8, k9, k10⟩ := h
  generalize hT : manyT t (14 + a) (38 + b) (38 + c) (58 + d) = u
  have e1 : u.dg = t.dg := by rw [← hT]; rfl
  have e2 : ckSign u = ckSign t := by rw [← hT]; rfl
  have e3 : ckPoint u = ckPoint t := by rw [← hT]; rfl
  have e4 : u.minGroup = t.minGroup := by rw [← hT]; rfl
  have e5 : ckPat u = ckPat t := by rw [← hT]; rfl
  have e6 : ckRules u = ckRules t := by rw [← hT]; rfl
  have e7 : ckRow u = decide (14 + a ≤ 16) := by
    rw [← rows_longN h1, ← hT]
    show (rowsF t.short 0 && (rowsF (longN (14 + a)) 0 && rowsF t.mshort 1)) = _
    rw [k7, k8]; simp
  have e8 : ckCur u = decide (38 + b ≤ 40) := by rw [← curs_N h2, ← hT]; rfl
  have e9 : ckUnit u = decide (38 + c ≤ 40) := by rw [← units_N h3, ← hT]; rfl
  have e10 : u.munit = t.munit := by rw [← hT]; rfl
  have e11 : ckSpc u = decide (58 + d ≤ 60) := by
    rw [← spc_N h4, ← hT]
    show (spcB t.before && spcB (aftN t.after (58 + d))) = _
    rw [k10, ha]; simp
  unfold checkF manyW
  rw [e1, e2, e3, e4, e5, e6, e7, e8, e9, e10, e11, k1, k2, k3, k4, k5, k6, k9]
  simp only [Bool.true_eq_false, if_false, decide_eq_false_iff_not, Nat.not_le]
theorem clsS_len (l : List Rg) : (clsS l).length ≤ 6 * l.length + 2 := by
  have := flat_len l
  simp only [clsS, List.length_append, List.length_singleton]
  omega
theorem many_fits {t : TTab} (h : t.fits) {a b c d : Nat} (h1 : a ≤ 100) (h2 : b ≤ 100) (h3 : c ≤ 100) (h4 : d ≤ 100) : (manyT t a b c d).fits := by
  refine { h with long := ⟨by simp [manyT, longN]; omega, fun r hr => ?_⟩, curs := ⟨by simp [manyT, cursN]; omega, fun r hr => ?_⟩, units := ⟨by simp [manyT, unitsN]; omega, fun r hr => ?_⟩, after := ?_ }
  · simp only [manyT, longN, List.mem_map] at hr
    obtain ⟨i, _, rfl⟩ := hr
    exact row_fits (oneT_fits (by simp))
  · simp only [manyT, cursN, List.mem_map] at hr
    obtain ⟨i, _, rfl⟩ := hr
    exact ⟨by simp, by simp, by simp, nil_fits⟩
  · simp only [manyT, unitsN, List.mem_map] at hr
    obtain ⟨i, _, rfl⟩ := hr
    exact ⟨by simp, oneT_fits (by simp)⟩
  · refine { h.after with num := ?_ }
    have := clsS_len (rgN d)
    have hl : (rgN d).length = d := by simp [rgN]
    show (clsS (rgN d)).length < 50000
    omega
theorem longN_snoc (i : Nat) : longN (i + 1) = longN i ++ [⟨(i : Int), oneT [48, 32, 120]⟩] := by simp [longN, List.range_succ]
theorem cursN_snoc (i : Nat) : cursN (i + 1) = cursN i ++ [⟨[UInt8.ofNat (65 + i / 26), UInt8.ofNat (65 + i % 26), 88], [], [], [], 0, 0, 0, 0⟩] := by simp [cursN, List.range_succ]
theorem unitsN_snoc (i : Nat) : unitsN (i + 1) = unitsN i ++ [⟨[UInt8.ofNat (97 + i / 26), UInt8.ofNat (97 + i % 26)], oneT [123, 48, 125]⟩] := by simp [unitsN, List.range_succ]
theorem rgN_snoc (i : Nat) : rgN (i + 1) = rgN i ++ [mkR (3 * i) (3 * i)] := by simp [rgN, List.range_succ]
theorem rgN_eq {d : Nat} (hd : d ≤ 80) : ∀ x ∈ rgN d, x.1 = x.2 ∧ x.1.val < 256 := by
  intro x hx
  simp only [rgN, List.mem_map, List.mem_range] at hx
  obtain ⟨i, hi, rfl⟩ := hx
  refine ⟨rfl, ?_⟩
  simp only [mkR, Fin.val_ofNat]
  rw [Nat.mod_eq_of_lt (by omega)]
  omega
theorem and3 (x : Int) : ∃ k : Nat, k ≤ 3 ∧ IntKind.i64.wrap (BitVec.ofInt IntKind.i64.bits x &&& BitVec.ofInt IntKind.i64.bits 3).toNat = (k : Int) := by
  have h : (BitVec.ofInt IntKind.i64.bits x &&& BitVec.ofInt IntKind.i64.bits 3).toNat ≤ 3 := by
    rw [BitVec.toNat_and]
    exact Nat.le_trans Nat.and_le_right (by decide)
  exact ⟨_, h, wrap_i64 (by omega) (by omega)⟩
end Go.Proofs.YtpipbjfcbbdicaaGreatDoor

namespace Go.Proofs.YtpipbjfcbbdicaaGreatDoor
open Go Go.Abs
attribute [local irreducible] DrawW CallW RetW AC Does CmpW

def encCN (c : TCur) : List AV := [.str c.code, .str c.symbol, .str c.narrow, .nils, .int .i64 c.digits, .int .i64 c.inc, .int .i64 c.cashDigits, .int .i64 c.cashInc]
theorem unnil_curs (b : Nat) : ((cursN b).map encCN).map (fun e => e.map unnil) = (cursN b).map encCu := by
  simp only [cursN, List.map_map]
  rfl
theorem quo26 {i : Nat} (h : i < 100) : IntKind.i64.wrap ((i : Int).tdiv 26) = ((i / 26 : Nat) : Int) := by
  rw [Int.tdiv_eq_ediv_of_nonneg (by omega), wrap_i64 (by omega) (by omega)]; rfl
theorem rem26 {i : Nat} (h : i < 100) : (i : Int).tmod 26 = ((i % 26 : Nat) : Int) := by
  rw [Int.tmod_eq_emod_of_nonneg (by omega)]; rfl
theorem u8s {n : Nat} (h : n < 256) : IntKind.u8.wrap (n : Int) = (n : Int) := wrap_u8 (by omega) (by omega)
theorem u8a {n k : Nat} (h : n + k < 256) : IntKind.u8.wrap ((n : Int) + (k : Int)) = ((n + k : Nat) : Int) := by
  rw [wrap_u8 (by omega) (by omega)]; rfl
theorem i64a {n k : Nat} (h : n + k < 10000) : IntKind.i64.wrap ((n : Int) + (k : Int)) = ((n + k : Nat) : Int) := by
  rw [wrap_i64 (by omega) (by omega)]; rfl
theorem i64m {k : Nat} (h : k < 10000) : IntKind.i64.wrap (3 * (k : Int)) = ((3 * k : Nat) : Int) := by
  rw [wrap_i64 (by omega) (by omega)]; rfl
theorem i32s {n : Nat} (h : n < 100000) : IntKind.i32.wrap (n : Int) = (n : Int) := wrap_i32 (by omega) (by omega)
theorem u8n {n : Nat} (h : n < 256) : ((UInt8.ofNat n).toNat : Int) = (n : Int) := by
  simp; omega
theorem rgEs_snoc {i : Nat} (h : i < 100) : rgEs (rgN (i + 1)) = rgEs (rgN i) ++ [[.int .i32 ((3 * i : Nat) : Int), .int .i32 ((3 * i : Nat) : Int)]] := by
  rw [rgN_snoc, rgEs, List.map_append, List.map_singleton, encG_mk (by omega) (by omega)]; rfl
theorem ValidMany_does (m : Int) (n r c u g : Int) : Does Tryz.prog (GD m) 5 [.int .i64 n, .int .i64 r, .int .i64 c, .int .i64 u, .int .i64 g] [] fun ae _ => ae = .ret (.bool true) := by
  obtain ⟨a, ha, hA⟩ := and3 r
  obtain ⟨b, hb, hB⟩ := and3 c
  obtain ⟨k, hk, hK⟩ := and3 u
  obtain ⟨d, hd, hD⟩ := and3 g
  have f0 := (base_few n).fits
  obtain ⟨hr0, haf⟩ := rest_base n
  have dB := Base_does (G := GD m) n
  generalize baseF n = t at f0 hr0 haf dB
  refine Does.bodyA tab Tryz.func5 rfl rfl ?_
  refine AC.step tab ?_
  refine gos ?_
  refine AC.cutF tab (fun e h => e = [.int .i64 n, .int .i64 r, .int .i64 c, .int .i64 u, .int .i64 g] ++ List.replicate 129 .any ∧ h = []) ?_ ?_
  · refine gos ?_
    refine CallW.pure (head16_does m).more rfl rfl ?_
    refine gos ?_
    exact ⟨_, 0, fgts, rfl, rfl⟩
  rintro e h ⟨rfl, rfl⟩
  refine AC.cutF tab (fun e h => ∃ v, e = List.replicate 1 .any ++ [.int .i64 r, .int .i64 c, .int .i64 u, .int .i64 g] ++ List.replicate 6 .any ++ [.ptr 0 v 0 0] ++ List.replicate 122 .any ∧ h = [some ⟨v, 31, 34, [tabC t]⟩]) ?_ ?_
  · refine gos ?_
    refine CallW.pure dB rfl rfl ?_
    (repeat (first | refine gof ?_ | refine fun (vv : Nat) => ?_))
    exact ⟨_, 1, fgts, vv, rfl, rfl⟩
  rintro e h ⟨v, rfl, rfl⟩
  refine AC.cutF tab (fun e h => e = List.replicate 2 .any ++ [.int .i64 c, .int .i64 u, .int .i64 g] ++ List.replicate 6 .any ++ [.ptr 0 v 0 0, .int .i64 ((14 + a : Nat) : Int)] ++ List.replicate 121 .any ∧ h = [some ⟨v, 31, 34, [tabC t]⟩]) ?_ ?_
  · refine And.intro rfl ⟨(a : Int), hA, ?_⟩
    refine And.intro rfl ⟨((14 + a : Nat) : Int), i64a (n := 14) (by omega), ?_⟩
    exact ⟨_, 1, fgts, rfl, rfl⟩
  rintro e h ⟨rfl, rfl⟩
  refine AC.cutF tab (fun e h => e = List.replicate 2 .any ++ [.int .i64 c, .int .i64 u, .int .i64 g] ++ List.replicate 6 .any ++ [.ptr 0 v 0 0, .int .i64 ((14 + a : Nat) : Int)] ++ List.replicate 121 .any ∧ h = [some ⟨v, 31, 34, [(tabC t).set 23 .nils]⟩]) ?_ ?_
  · refine gos ?_
    exact ⟨_, 1, fgts, rfl, rfl⟩
  rintro e h ⟨rfl, rfl⟩
  refine AC.ownC 0 23 43 2 (cs := (tabC t).set 23 .nils) rfl rfl rfl (by omega) fun va => ?_
  refine AC.cutF tab (fun e h => ∃ va, e = List.replicate 2 .any ++ [.int .i64 c, .int .i64 u, .int .i64 g] ++ List.replicate 6 .any ++ [.ptr 0 v 0 0, .int .i64 ((14 + a : Nat) : Int)] ++ List.replicate 121 .any ∧ h = [some ⟨v, 31, 34, [(tabC t).set 23 (.sl 1 va)]⟩, some ⟨va, 43, 2, (longN (14 + a)).map encR⟩]) ?_ ?_
  · refine gos ?_
    refine AC.loopC tab (fun f e h => ∃ (i va : Nat), f + i = 14 + a + 1 ∧ i ≤ 14 + a ∧ e = List.replicate 2 .any ++ [.int .i64 c, .int .i64 u, .int .i64 g] ++ List.replicate 6 .any ++ [.ptr 0 v 0 0, .int .i64 ((14 + a : Nat) : Int), .int .i64 ((i : Nat) : Int)] ++ List.replicate 120 .any ∧
        h = [some ⟨v, 31, 34, [(tabC t).set 23 (.sl 1 va)]⟩, some ⟨va, 43, 2, (longN i).map encR⟩]) (14 + a + 1) ⟨_, fgts, 0, va, by omega, by omega, rfl, rfl⟩ ?_
    rintro f e h ⟨i, va, hf, hi, rfl, rfl⟩
    have ll : (longN i).length = i := by simp [longN]
    refine gos ?_
    by_cases hlt : i < 14 + a
    · refine CmpW.T ?_
      refine gos ?_
      refine DrawW.P (.take 0 (.take 2 (.fork (.cons 1 (.take 3 (.take 4 (.take 5 (.take 6 (.take 7 (.take 8 .done)))))) (.cons 3 (.take 4 (.fork (.cons 1 (.take 5 (.take 6 (.take 7 (.take 8 .done)))) (.cons 5 (.take 1 (.take 6 (.take 7 (.take 8 .done)))) .nil)))) .nil))))) ?_
      (repeat' (first | exact trivial | refine CallW.pure (One_does _) rfl rfl ?_ | refine gof ?_ | refine fun (vv : Nat) => ?_ | refine And.intro ?_ ?_))
      all_goals
        refine gos ?_
        exact ⟨f - 1, _, 2, by omega, fgts, i + 1, vv, by omega, by omega, rfl, by rw [longN_snoc, List.map_append]; rfl⟩
    · refine CmpW.N ?_
      refine gos ?_
      obtain rfl : i = 14 + a := by omega
      exact ⟨_, 2, fgts, va, rfl, rfl⟩
  rintro e h ⟨va, rfl, rfl⟩
  refine AC.rowC 1 0 0 23 rfl rfl (by omega) rfl rfl rfl (closedLL_mp (fun _ => rfl) _) ?_
  refine AC.cutF tab (fun e h => e = List.replicate 3 .any ++ [.int .i64 u, .int .i64 g] ++ List.replicate 6 .any ++ [.ptr 0 v 0 0, .int .i64 ((14 + a : Nat) : Int)] ++ List.replicate 1 .any ++ [.int .i64 ((38 + b : Nat) : Int)] ++ List.replicate 119 .any ∧ h = [some ⟨v, 31, 34, [tabC { t with long := longN (14 + a) }]⟩, none]) ?_ ?_
  · refine And.intro rfl ⟨(b : Int), hB, ?_⟩
    refine And.intro rfl ⟨((38 + b : Nat) : Int), i64a (n := 38) (by omega), ?_⟩
    exact ⟨_, 2, fgts, rfl, rfl⟩
  rintro e h ⟨rfl, rfl⟩
  obtain ⟨t1, ht1⟩ : ∃ t1 : TTab, t1 = { t with long := longN (14 + a) } := ⟨_, rfl⟩
  rw [← ht1]
  refine AC.cutF tab (fun e h => e = List.replicate 3 .any ++ [.int .i64 u, .int .i64 g] ++ List.replicate 6 .any ++ [.ptr 0 v 0 0, .int .i64 ((14 + a : Nat) : Int)] ++ List.replicate 1 .any ++ [.int .i64 ((38 + b : Nat) : Int)] ++ List.replicate 119 .any ∧ h = [some ⟨v, 31, 34, [(tabC t1).set 25 .nils]⟩, none]) ?_ ?_
  · refine gos ?_
    exact ⟨_, 2, fgts, rfl, rfl⟩
  rintro e h ⟨rfl, rfl⟩
  refine AC.ownC 0 25 46 8 (cs := (tabC t1).set 25 .nils) rfl rfl rfl (by omega) fun vb => ?_
  refine AC.cutF tab (fun e h => ∃ vb, e = List.replicate 3 .any ++ [.int .i64 u, .int .i64 g] ++ List.replicate 6 .any ++ [.ptr 0 v 0 0, .int .i64 ((14 + a : Nat) : Int)] ++ List.replicate 1 .any ++ [.int .i64 ((38 + b : Nat) : Int)] ++ List.replicate 119 .any ∧ h = [some ⟨v, 31, 34, [(tabC t1).set 25 (.sl 2 vb)]⟩, none, some ⟨vb, 46, 8, (cursN (38 + b)).map encCN⟩]) ?_ ?_
  · refine gos ?_
    refine AC.loopC tab (fun f e h => ∃ (i vb : Nat), f + i = 38 + b + 1 ∧ i ≤ 38 + b ∧ e = List.replicate 3 .any ++ [.int .i64 u, .int .i64 g] ++ List.replicate 6 .any ++ [.ptr 0 v 0 0, .int .i64 ((14 + a : Nat) : Int)] ++ List.replicate 1 .any ++ [.int .i64 ((38 + b : Nat) : Int), .int .i64 ((i : Nat) : Int)] ++ List.replicate 118 .any ∧
        h = [some ⟨v, 31, 34, [(tabC t1).set 25 (.sl 2 vb)]⟩, none, some ⟨vb, 46, 8, (cursN i).map encCN⟩]) (38 + b + 1) ⟨_, fgts, 0, vb, by omega, by omega, rfl, rfl⟩ ?_
    rintro f e h ⟨i, vb, hf, hi, rfl, rfl⟩
    have ll : (cursN i).length = i := by simp [cursN]
    refine gos ?_
    by_cases hlt : i < 38 + b
    · refine CmpW.T ?_
      refine gos ?_
      refine And.intro (by decide) ⟨((i / 26 : Nat) : Int), quo26 (by omega), ?_⟩
      refine ⟨((i / 26 : Nat) : Int), u8s (by omega), ?_⟩
      refine And.intro rfl ⟨((65 + i / 26 : Nat) : Int), u8a (n := 65) (by omega), ?_⟩
      refine And.intro rfl ?_
      refine And.intro (by decide) ⟨((i % 26 : Nat) : Int), rem26 (by omega), ?_⟩
      refine ⟨((i % 26 : Nat) : Int), u8s (by omega), ?_⟩
      refine And.intro rfl ⟨((65 + i % 26 : Nat) : Int), u8a (n := 65) (by omega), ?_⟩
      (repeat (first | refine gof ?_ | refine fun (vv : Nat) => ?_))
      refine ⟨[UInt8.ofNat (65 + i / 26), UInt8.ofNat (65 + i % 26), 88], by simp only [byteEs, List.map_cons, List.map_nil]; rw [u8n (by omega), u8n (by omega)]; rfl, ?_⟩
      (repeat (first | refine gof ?_ | refine fun (vv : Nat) => ?_))
      exact ⟨f - 1, _, 3, by omega, fgts, i + 1, vv, by omega, by omega, rfl, by rw [cursN_snoc, List.map_append]; rfl⟩
    · refine CmpW.N ?_
      refine gos ?_
      obtain rfl : i = 38 + b := by omega
      exact ⟨_, 3, fgts, vb, rfl, rfl⟩
  rintro e h ⟨vb, rfl, rfl⟩
  refine AC.unnilC 2 rfl ?_
  show AC _ _ _ _ _ [some ⟨v, 31, 34, [(tabC t1).set 25 (.sl 2 vb)]⟩, none, some ⟨vb, 46, 8, ((cursN (38 + b)).map encCN).map (fun e => e.map unnil)⟩]
  rw [unnil_curs]
  refine AC.rowC 2 0 0 25 rfl rfl (by omega) rfl rfl rfl (closedLL_mp (fun _ => rfl) _) ?_
  refine AC.cutF tab (fun e h => e = List.replicate 4 .any ++ [.int .i64 g] ++ List.replicate 6 .any ++ [.ptr 0 v 0 0, .int .i64 ((14 + a : Nat) : Int)] ++ List.replicate 1 .any ++ [.int .i64 ((38 + b : Nat) : Int)] ++ List.replicate 1 .any ++ [.int .i64 ((38 + k : Nat) : Int)] ++ List.replicate 117 .any ∧ h = [some ⟨v, 31, 34, [tabC { t1 with curs := cursN (38 + b) }]⟩, none, none]) ?_ ?_
  · refine And.intro rfl ⟨(k : Int), hK, ?_⟩
    refine And.intro rfl ⟨((38 + k : Nat) : Int), i64a (n := 38) (by omega), ?_⟩
    exact ⟨_, 3, fgts, rfl, rfl⟩
  rintro e h ⟨rfl, rfl⟩
  obtain ⟨t2, ht2⟩ : ∃ t2 : TTab, t2 = { t1 with curs := cursN (38 + b) } := ⟨_, rfl⟩
  rw [← ht2]
  refine AC.cutF tab (fun e h => e = List.replicate 4 .any ++ [.int .i64 g] ++ List.replicate 6 .any ++ [.ptr 0 v 0 0, .int .i64 ((14 + a : Nat) : Int)] ++ List.replicate 1 .any ++ [.int .i64 ((38 + b : Nat) : Int)] ++ List.replicate 1 .any ++ [.int .i64 ((38 + k : Nat) : Int)] ++ List.replicate 117 .any ∧ h = [some ⟨v, 31, 34, [(tabC t2).set 26 .nils]⟩, none, none]) ?_ ?_
  · refine gos ?_
    exact ⟨_, 3, fgts, rfl, rfl⟩
  rintro e h ⟨rfl, rfl⟩
  refine AC.ownC 0 26 48 2 (cs := (tabC t2).set 26 .nils) rfl rfl rfl (by omega) fun vc => ?_
  refine AC.cutF tab (fun e h => ∃ vc, e = List.replicate 4 .any ++ [.int .i64 g] ++ List.replicate 6 .any ++ [.ptr 0 v 0 0, .int .i64 ((14 + a : Nat) : Int)] ++ List.replicate 1 .any ++ [.int .i64 ((38 + b : Nat) : Int)] ++ List.replicate 1 .any ++ [.int .i64 ((38 + k : Nat) : Int)] ++ List.replicate 117 .any ∧ h = [some ⟨v, 31, 34, [(tabC t2).set 26 (.sl 3 vc)]⟩, none, none, some ⟨vc, 48, 2, (unitsN (38 + k)).map encU⟩]) ?_ ?_
  · refine gos ?_
    refine AC.loopC tab (fun f e h => ∃ (i vc : Nat), f + i = 38 + k + 1 ∧ i ≤ 38 + k ∧ e = List.replicate 4 .any ++ [.int .i64 g] ++ List.replicate 6 .any ++ [.ptr 0 v 0 0, .int .i64 ((14 + a : Nat) : Int)] ++ List.replicate 1 .any ++ [.int .i64 ((38 + b : Nat) : Int)] ++ List.replicate 1 .any ++ [.int .i64 ((38 + k : Nat) : Int), .int .i64 ((i : Nat) : Int)] ++ List.replicate 116 .any ∧
        h = [some ⟨v, 31, 34, [(tabC t2).set 26 (.sl 3 vc)]⟩, none, none, some ⟨vc, 48, 2, (unitsN i).map encU⟩]) (38 + k + 1) ⟨_, fgts, 0, vc, by omega, by omega, rfl, rfl⟩ ?_
    rintro f e h ⟨i, vc, hf, hi, rfl, rfl⟩
    have ll : (unitsN i).length = i := by simp [unitsN]
    refine gos ?_
    by_cases hlt : i < 38 + k
    · refine CmpW.T ?_
      refine gos ?_
      have hbs : ([[.int .u8 ((97 + i / 26 : Nat) : Int)], [.int .u8 ((97 + i % 26 : Nat) : Int)]] : List (List AV)) = byteEs [UInt8.ofNat (97 + i / 26), UInt8.ofNat (97 + i % 26)] := by
        simp only [byteEs, List.map_cons, List.map_nil]; rw [u8n (by omega), u8n (by omega)]
      refine DrawW.P (.take 0 (.take 2 (.take 3 (.take 4 (.take 5 (.take 6 (.take 7 (.take 8 (.take 9 (.fork (.cons 1 (.fork (.cons 10 (.fork (.cons 11 (.take 12 (.take 13 (.take 14 (.take 15 (.take 16 (.take 17 .done)))))) (.cons 12 (.take 11 (.take 13 (.take 14 (.take 15 (.take 16 (.take 17 .done)))))) .nil))) (.cons 12 (.take 10 (.take 11 (.take 13 (.take 14 (.take 15 (.take 16 (.take 17 .done))))))) .nil))) (.cons 10 (.fork (.cons 1 (.fork (.cons 11 (.take 12 (.take 13 (.take 14 (.take 15 (.take 16 (.take 17 .done)))))) (.cons 12 (.take 11 (.take 13 (.take 14 (.take 15 (.take 16 (.take 17 .done)))))) .nil))) (.cons 11 (.fork (.cons 1 (.take 12 (.take 13 (.take 14 (.take 15 (.take 16 (.take 17 .done)))))) (.cons 12 (.take 13 (.fork (.cons 1 (.take 14 (.take 15 (.take 16 (.take 17 .done)))) (.cons 14 (.take 1 (.take 15 (.take 16 (.take 17 .done)))) .nil)))) .nil))) (.cons 12 (.fork (.cons 1 (.take 11 (.take 13 (.take 14 (.take 15 (.take 16 (.take 17 .done)))))) (.cons 11 (.take 13 (.fork (.cons 1 (.take 14 (.take 15 (.take 16 (.take 17 .done)))) (.cons 14 (.take 1 (.take 15 (.take 16 (.take 17 .done)))) .nil)))) .nil))) .nil)))) (.cons 12 (.fork (.cons 1 (.take 10 (.take 11 (.take 13 (.take 14 (.take 15 (.take 16 (.take 17 .done))))))) (.cons 10 (.fork (.cons 1 (.take 11 (.take 13 (.take 14 (.take 15 (.take 16 (.take 17 .done)))))) (.cons 11 (.take 13 (.fork (.cons 1 (.take 14 (.take 15 (.take 16 (.take 17 .done)))) (.cons 14 (.take 1 (.take 15 (.take 16 (.take 17 .done)))) .nil)))) .nil))) .nil))) .nil))))))))))))) ?_
      refine And.intro rfl ?_
      refine And.intro rfl ?_
      refine And.intro (by decide) ⟨((i / 26 : Nat) : Int), quo26 (by omega), ?_⟩
      refine ⟨((i / 26 : Nat) : Int), u8s (by omega), ?_⟩
      refine And.intro rfl ⟨((97 + i / 26 : Nat) : Int), u8a (n := 97) (by omega), ?_⟩
      refine And.intro rfl ?_
      refine And.intro (by decide) ⟨((i % 26 : Nat) : Int), rem26 (by omega), ?_⟩
      refine ⟨((i % 26 : Nat) : Int), u8s (by omega), ?_⟩
      refine And.intro rfl ⟨((97 + i % 26 : Nat) : Int), u8a (n := 97) (by omega), ?_⟩
      (repeat' (first | exact trivial | refine CallW.pure (One_does _) rfl rfl ?_ | refine Exists.intro [UInt8.ofNat (97 + i / 26), UInt8.ofNat (97 + i % 26)] (And.intro hbs ?_) | refine gof ?_ | refine fun (vv : Nat) => ?_ | refine And.intro ?_ ?_))
      all_goals
        refine gos ?_
        exact ⟨f - 1, _, 4, by omega, fgts, i + 1, vv, by omega, by omega, rfl, by rw [unitsN_snoc, List.map_append]; rfl⟩
    · refine CmpW.N ?_
      refine gos ?_
      obtain rfl : i = 38 + k := by omega
      exact ⟨_, 4, fgts, vc, rfl, rfl⟩
  rintro e h ⟨vc, rfl, rfl⟩
  refine AC.rowC 3 0 0 26 rfl rfl (by omega) rfl rfl rfl (closedLL_mp (fun _ => rfl) _) ?_
  refine AC.cutF tab (fun e h => e = List.replicate 11 .any ++ [.ptr 0 v 0 0, .int .i64 ((14 + a : Nat) : Int)] ++ List.replicate 1 .any ++ [.int .i64 ((38 + b : Nat) : Int)] ++ List.replicate 1 .any ++ [.int .i64 ((38 + k : Nat) : Int)] ++ List.replicate 1 .any ++ [.int .i64 ((58 + d : Nat) : Int)] ++ List.replicate 115 .any ∧ h = [some ⟨v, 31, 34, [tabC { t2 with units := unitsN (38 + k) }]⟩, none, none, none]) ?_ ?_
  · refine And.intro rfl ⟨(d : Int), hD, ?_⟩
    refine And.intro rfl ⟨((58 + d : Nat) : Int), i64a (n := 58) (by omega), ?_⟩
    exact ⟨_, 4, fgts, rfl, rfl⟩
  rintro e h ⟨rfl, rfl⟩
  obtain ⟨t3, ht3⟩ : ∃ t3 : TTab, t3 = { t2 with units := unitsN (38 + k) } := ⟨_, rfl⟩
  rw [← ht3]
  refine AC.step tab ?_
  refine gos ?_
  intro vl
  refine gos ?_
  refine AC.cutF tab (fun e h => ∃ vl, e = List.replicate 11 .any ++ [.ptr 0 v 0 0, .int .i64 ((14 + a : Nat) : Int)] ++ List.replicate 1 .any ++ [.int .i64 ((38 + b : Nat) : Int)] ++ List.replicate 1 .any ++ [.int .i64 ((38 + k : Nat) : Int)] ++ List.replicate 1 .any ++ [.int .i64 ((58 + d : Nat) : Int), .sl 4 vl] ++ List.replicate 114 .any ∧ h = [some ⟨v, 31, 34, [tabC t3]⟩, none, none, none, some ⟨vl, 51, 2, rgEs (rgN (58 + d))⟩]) ?_ ?_
  · refine gos ?_
    refine AC.loopC tab (fun f e h => ∃ (i vl : Nat), f + i = 58 + d + 1 ∧ i ≤ 58 + d ∧ e = List.replicate 11 .any ++ [.ptr 0 v 0 0, .int .i64 ((14 + a : Nat) : Int)] ++ List.replicate 1 .any ++ [.int .i64 ((38 + b : Nat) : Int)] ++ List.replicate 1 .any ++ [.int .i64 ((38 + k : Nat) : Int)] ++ List.replicate 1 .any ++ [.int .i64 ((58 + d : Nat) : Int), .sl 4 vl, .int .i64 ((i : Nat) : Int)] ++ List.replicate 113 .any ∧
        h = [some ⟨v, 31, 34, [tabC t3]⟩, none, none, none, some ⟨vl, 51, 2, rgEs (rgN i)⟩]) (58 + d + 1) ⟨_, fgts, 0, vl, by omega, by omega, rfl, rfl⟩ ?_
    rintro f e h ⟨i, vl, hf, hi, rfl, rfl⟩
    have ll : (rgN i).length = i := by simp [rgN]
    refine gos ?_
    by_cases hlt : i < 58 + d
    · refine CmpW.T ?_
      refine And.intro (fun _ => ?_) (fun h => Bool.noConfusion h)
      refine And.intro rfl ⟨((3 * i : Nat) : Int), i64m (by omega), ?_⟩
      refine ⟨((3 * i : Nat) : Int), i32s (by omega), ?_⟩
      refine And.intro rfl ⟨((3 * i : Nat) : Int), i64m (by omega), ?_⟩
      refine ⟨((3 * i : Nat) : Int), i32s (by omega), ?_⟩
      (repeat (first | refine gof ?_ | refine fun (vv : Nat) => ?_))
      exact ⟨f - 1, _, 5, by omega, fgts, i + 1, vv, by omega, by omega, rfl, by rw [rgEs_snoc (by omega)]; rfl⟩
    · refine CmpW.N ?_
      refine gos ?_
      obtain rfl : i = 58 + d := by omega
      exact ⟨_, 5, fgts, vl, rfl, rfl⟩
  rintro e h ⟨vl, rfl, rfl⟩
  refine AC.wk (Wk.row (k := 19) (i := 4) rfl rfl rfl (rgEs_closed _)) ?_
  have lrg : (rgN (58 + d)).length = 58 + d := by simp [rgN]
  have dM := made_does (G := GD m) (rgN (58 + d)) (by omega)
  rw [made_rgN hd] at dM
  have dS := CStr_does (m := m) (rgN (58 + d)) (rgN_eq (by omega)) (by omega)
  refine AC.cutF tab (fun e h => e = List.replicate 11 .any ++ [.ptr 0 v 0 0, .int .i64 ((14 + a : Nat) : Int)] ++ List.replicate 1 .any ++ [.int .i64 ((38 + b : Nat) : Int)] ++ List.replicate 1 .any ++ [.int .i64 ((38 + k : Nat) : Int)] ++ List.replicate 1 .any ++ [.int .i64 ((58 + d : Nat) : Int)] ++ List.replicate 115 .any ∧ h = [some ⟨v, 31, 34, [tabC { t3 with after := aftN t3.after (58 + d) }]⟩]) ?_ ?_
  · refine gos ?_
    refine CallW.pure dM rfl rfl ?_
    refine gos ?_
    refine CallW.pure dS (by simp [closedL, closed]) rfl ?_
    refine gos ?_
    exact ⟨_, 1, fgts, rfl, rfl⟩
  rintro e h ⟨rfl, rfl⟩
  have hT : { t3 with after := aftN t3.after (58 + d) } = manyT t (14 + a) (38 + b) (38 + k) (58 + d) := by rw [ht3, ht2, ht1]; rfl
  rw [hT]
  have dC := (Check_does (m := m) (many_fits f0 (a := 14 + a) (b := 38 + b) (c := 38 + k) (d := 58 + d) (by omega) (by omega) (by omega) (by omega))).more (x := (4, dbCells))
  rw [many_check hr0 haf ha hb hk hd] at dC
  generalize manyT t (14 + a) (38 + b) (38 + k) (58 + d) = w at dC
  refine AC.step tab ?_
  refine gos ?_
  refine AC.cutF tab (fun e h => e = List.replicate 11 .any ++ [.ptr 0 v 0 0] ++ List.replicate 9 .any ++ [.int .i64 (manyW (14 + a) (38 + b) (38 + k) (58 + d))] ++ List.replicate 112 .any ∧ h = [some ⟨v, 31, 34, [tabC w]⟩]) ?_ ?_
  · refine gos ?_
    by_cases q1 : 16 < 14 + a
    · refine CmpW.T ?_
      rw [show manyW (14 + a) (38 + b) (38 + k) (58 + d) = 7 by simp only [manyW, if_pos q1]]
      refine gos ?_
      exact ⟨_, 1, fgts, rfl, rfl⟩
    refine CmpW.N ?_
    refine gos ?_
    by_cases q2 : 40 < 38 + b
    · refine CmpW.T ?_
      rw [show manyW (14 + a) (38 + b) (38 + k) (58 + d) = 8 by simp only [manyW, if_neg q1, if_pos q2]]
      refine gos ?_
      exact ⟨_, 1, fgts, rfl, rfl⟩
    refine CmpW.N ?_
    refine gos ?_
    by_cases q3 : 40 < 38 + k
    · refine CmpW.T ?_
      rw [show manyW (14 + a) (38 + b) (38 + k) (58 + d) = 9 by simp only [manyW, if_neg q1, if_neg q2, if_pos q3]]
      refine gos ?_
      exact ⟨_, 1, fgts, rfl, rfl⟩
    refine CmpW.N ?_
    refine gos ?_
    by_cases q4 : 60 < 58 + d
    · refine CmpW.T ?_
      rw [show manyW (14 + a) (38 + b) (38 + k) (58 + d) = 11 by simp only [manyW, if_neg q1, if_neg q2, if_neg q3, if_pos q4]]
      refine gos ?_
      exact ⟨_, 1, fgts, rfl, rfl⟩
    refine CmpW.N ?_
    rw [show manyW (14 + a) (38 + b) (38 + k) (58 + d) = 0 by simp only [manyW, if_neg q1, if_neg q2, if_neg q3, if_neg q4]]
    refine gos ?_
    exact ⟨_, 1, fgts, rfl, rfl⟩
  rintro e h ⟨rfl, rfl⟩
  refine AC.go tab ?_
  refine gos ?_
  refine CallW.pure dC rfl rfl ?_
  refine gos ?_
  refine CmpW.t (by simp) ?_
  refine gos ?_
  refine RetW.plain (by simp) ?_
  rfl
theorem ValidMany_ok (m n r c u g : Int) : Does Tryz.prog (GD m) 5 [.int .i64 n, .int .i64 r, .int .i64 c, .int .i64 u, .int .i64 g] [] fun ae _ => ae = .ret (.bool true) := ValidMany_does m n r c u g
end Go.Proofs.YtpipbjfcbbdicaaGreatDoor

namespace Go.Proofs.YtpipbjfcbbdicaaGreatDoor
open Go Go.Abs
theorem top_GD {W : World} {m : Int} (hU : Lib.Utf8Tabs 0 1 W) (hm : W.cell? ⟨5, 0, none⟩ = some (.int .i64 m)) (hd : Lib.VarReads Tryz.prog W "math/bits.deBruijn64tab" Rows.laid_math_bits_deBruijn64tab) : Abs.Good (GD m) (Ctx.top W) := by
  have hg := top_GL hU hm
  refine top_good fun p hp => ?_
  rcases List.mem_cons.1 hp with rfl | hp
  · obtain ⟨g, t, cs, fuel, q, hn, hty, hvar, ht⟩ := hd
    obtain rfl : 4 = g := Option.some.inj ((show Tryz.prog.globalNamed "math/bits.deBruijn64tab" = some 4 by kernel_rfl).symm.trans hn)
    obtain rfl : 250 = t := Option.some.inj ((show (Tryz.prog.globals[4]?).map (·.type) = some 250 by kernel_rfl).symm.trans hty)
    have hcs : cs.toList = dbL.map fun n => Value.int .u8 n := Lib.cells_of_tab (zs := dbL) (k := .u8) Tryz.underlying250 Tryz.underlying5 (by kernel_rfl) (by kernel_rfl) ht
    have hc : ∀ j : Nat, W.cell? ⟨4, j, none⟩ = cs[j]? := World.var?_cell hn hvar
    refine ⟨cs.toList, block_of_cell (off := 0) (v := .int .u8 0) (by rw [hc, ← Array.getElem?_toList, hcs]; rfl), fun j u hu => by rw [Nat.zero_add, hc, ← Array.getElem?_toList]; exact hu, ?_⟩
    rw [hcs]
    exact rep_of_ints (dbL.map fun n => (IntKind.u8, n))
  · obtain ⟨us, h1, h2, h3⟩ := hg.glob p hp
    exact ⟨us, h1.1, h2, h3⟩
end Go.Proofs.YtpipbjfcbbdicaaGreatDoor
