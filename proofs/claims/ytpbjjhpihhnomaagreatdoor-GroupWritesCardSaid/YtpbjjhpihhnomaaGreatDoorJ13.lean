/- The reader of rules: a rule. -/
import Derived.Test.YtpbjjhpihhnomaaGreatDoorJ07
import Derived.Test.YtpbjjhpihhnomaaGreatDoorJ11
set_option linter.unusedVariables false
set_option linter.unusedSimpArgs false
set_option maxRecDepth 100000
set_option maxHeartbeats 4000000

namespace Go.Proofs.YtpbjjhpihhnomaaGreatDoor
open Go Go.Abs
attribute [local irreducible] DrawW CallW RetW AC Does CmpW
variable {G : Globs}
def isHex (c : UInt8) : Bool := (48 ≤ c && c ≤ 57) || (97 ≤ c && c ≤ 102)
def hexD (c : UInt8) : Nat := if c.toNat ≤ 57 then c.toNat - 48 else c.toNat - 87
def hexV (l : List UInt8) : Nat := l.foldl (fun n c => n * 16 + hexD c) 0
theorem isHex_cases {c : UInt8} (h : isHex c = true) : (48 ≤ c.toNat ∧ c.toNat ≤ 57) ∨ (97 ≤ c.toNat ∧ c.toNat ≤ 102) := by
  simp only [isHex, Bool.or_eq_true, Bool.and_eq_true, decide_eq_true_eq] at h
  rcases h with ⟨h1, h2⟩ | ⟨h1, h2⟩
  · exact .inl ⟨h1, h2⟩
  · exact .inr ⟨h1, h2⟩
theorem hexD_lt {c : UInt8} (h : isHex c = true) : hexD c < 16 := by
  unfold hexD
  rcases isHex_cases h with h | h <;> split <;> omega
theorem hexV_snoc (l : List UInt8) (c : UInt8) : hexV (l ++ [c]) = hexV l * 16 + hexD c := by simp [hexV]
theorem hexV_lt : ∀ (n : Nat) (l : List UInt8), l.length = n → (∀ c ∈ l, isHex c = true) → hexV l < 16 ^ n
  | 0, l, hl, _ => by rw [List.eq_nil_of_length_eq_zero hl]; simp [hexV]
  | n + 1, l, hl, h => by
    obtain ⟨l', c, rfl⟩ : ∃ l' c, l = l' ++ [c] := by
      have hne : l ≠ [] := by intro e; rw [e] at hl; simp at hl
      exact ⟨l.dropLast, l.getLast hne, (List.dropLast_concat_getLast hne).symm⟩
    rw [hexV_snoc]
    have h1 := hexV_lt n l' (by simpa using hl) (fun d hd => h d (by simp [hd]))
    have h2 := hexD_lt (h c (by simp))
    rw [Nat.pow_succ]; omega
theorem lower_does (c : UInt8) (h1 : 97 ≤ c.toNat) (h2 : c.toNat ≤ 102) : Does Tryz.prog G 324 [.int .u8 c.toNat] [] fun ae _ => ae = .ret (.int .u8 c.toNat) := by
  have h : c.toNat = 97 ∨ c.toNat = 98 ∨ c.toNat = 99 ∨ c.toNat = 100 ∨ c.toNat = 101 ∨ c.toNat = 102 := by omega
  rcases h with h | h | h | h | h | h
  all_goals
    rw [h]
    refine Does.body tab Tryz.func324 rfl rfl ?_
    refine gos ?_
    refine RetW.plain (by simp) ?_
    rfl
theorem iParseUint_does (l : List UInt8) (h0 : l ≠ []) (hl : l.length ≤ 6) (hx : ∀ c ∈ l, isHex c = true) : Does Tryz.prog G 318 [.str l, .int .i64 16, .int .i64 32] [] fun ae _ => ae = .ret (.tuple [.int .u64 (hexV l), .nili]) := by
  refine Does.bodyA tab Tryz.func318 rfl rfl ?_
  refine AC.step tab ?_
  refine gos ?_
  refine AC.step tab ?_
  refine gos ?_
  refine CmpW.f (by simpa using h0) ?_
  refine gos ?_
  refine AC.step tab ?_
  refine gos ?_
  refine AC.step tab ?_
  refine gos ?_
  refine AC.step tab ?_
  refine gos ?_
  refine AC.step tab ?_
  refine gos ?_
  refine AC.step tab ?_
  refine gos ?_
  refine AC.step tab ?_
  refine gos ?_
  refine AC.step tab ?_
  refine gos ?_
  refine And.intro ?_ ?_
  · decide
  refine gos ?_
  refine AC.step tab ?_
  refine gos ?_
  refine AC.step tab ?_
  refine gos ?_
  refine AC.cutF tab (fun e h => e = [.any, .any, .any, .any, .any, .any, .any, .any, .any, .str l, .any, .any, .bool false, .int .u64 (hexV l)] ++ List.replicate 158 .any ∧ h = []) ?_ ?_
  · refine gos ?_
    have hM : IntKind.u64.wrap (IntKind.u64.wrap (1 * 2 ^ min (IntKind.u64.wrap 32).toNat IntKind.u64.bits) - 1) = 4294967295 := by decide
    have hbl : (byteEs l).length = l.length := by simp [byteEs]
    rw [hM, hbl]
    refine AC.loopC tab (fun f e h => ∃ k : Nat, f + k = l.length + 1 ∧ k ≤ l.length ∧
      e = [.any, .int .i64 16, .any, .any, .any, .any, .any, .any, .bool false, .str l, .int .u64 1152921504606846976, .int .u64 4294967295, .bool false, .int .u64 (hexV (l.take k))] ++ List.replicate 85 .any ++ [.fsl (byteEs l), .int .i64 l.length, .int .i64 k] ++ List.replicate 70 .any ∧ h = []) (l.length + 1) ⟨_, fgts, 0, by omega, by omega, rfl, rfl⟩ ?_
    rintro f e h ⟨k, hf, hk, rfl, rfl⟩
    have hn : hexV (l.take k) < 16777216 := by
      have h1 := hexV_lt k (l.take k) (by simp; omega) (fun c hc => hx c (List.mem_of_mem_take hc))
      have h2 : 16 ^ k ≤ 16 ^ 6 := Nat.pow_le_pow_right (by omega) (by omega)
      omega
    refine gos ?_
    by_cases hlt : k < l.length
    · obtain ⟨c, hc⟩ : ∃ c, l[k]? = some c := ⟨_, List.getElem?_eq_getElem hlt⟩
      have hch := hx c (List.mem_of_getElem? hc)
      have hd16 := hexD_lt hch
      have htk : l.take (k + 1) = l.take k ++ [c] := by
        rw [List.take_add_one, hc]; rfl
      refine CmpW.T ?_
      refine gos ?_
      refine And.intro (fun y hy => by obtain ⟨z, _, rfl⟩ := List.mem_map.1 hy; rfl) (And.intro (by omega) ⟨[.int .u8 c.toNat], by rw [Int.toNat_natCast]; simp [byteEs, hc], ?_⟩)
      refine gos ?_
      have hcc := isHex_cases hch
      refine CmpW.f (by simp; omega) ?_
      refine gos ?_
      obtain ⟨n, hnE⟩ : ∃ n, n = hexV (l.take k) := ⟨_, rfl⟩
      rw [← hnE] at hn ⊢
      have hnn : hexV (l.take (k + 1)) = n * 16 + hexD c := by rw [htk, hexV_snoc, hnE]
      have e1 : IntKind.u64.wrap ((n : Int) * IntKind.u64.wrap 16) = ((n * 16 : Nat) : Int) := by
        rw [wrap_u64 (n := 16) (by omega) (by omega), wrap_u64 (by omega) (by omega)]; omega
      have e2 : IntKind.u64.wrap (((n * 16 : Nat) : Int) + IntKind.u64.wrap (hexD c : Int)) = ((n * 16 + hexD c : Nat) : Int) := by
        rw [wrap_u64 (n := (hexD c : Int)) (by omega) (by omega), wrap_u64 (by omega) (by omega)]; omega
      have e16 : IntKind.u8.wrap 16 = 16 := by decide
      rcases hcc with hcc | hcc
      · have e0 : IntKind.u8.wrap ((c.toNat : Int) - 48) = (hexD c : Int) := by
          rw [wrap_u8 (by omega) (by omega)]; unfold hexD; rw [if_pos (by omega)]; omega
        refine CmpW.T ?_
        refine gos ?_
        refine CmpW.T ?_
        refine gos ?_
        rw [e0, e16]
        refine CmpW.N ?_
        refine gos ?_
        refine CmpW.N ?_
        refine gos ?_
        rw [e1, e2]
        refine CmpW.N ?_
        refine gos ?_
        refine CmpW.N ?_
        refine gos ?_
        rw [← hnn]
        exact ⟨f - 1, _, 0, by omega, fgts, k + 1, by omega, by omega, rfl, rfl⟩
      · have e0 : IntKind.u8.wrap (IntKind.u8.wrap ((c.toNat : Int) - 97) + 10) = (hexD c : Int) := by
          rw [wrap_u8 (n := (c.toNat : Int) - 97) (by omega) (by omega), wrap_u8 (by omega) (by omega)]; unfold hexD; rw [if_neg (by omega)]; omega
        have hlw := lower_does (G := G) c hcc.1 hcc.2
        refine CmpW.T ?_
        refine gos ?_
        refine CmpW.N ?_
        refine gos ?_
        refine CallW.pure hlw rfl rfl ?_
        refine gos ?_
        refine CmpW.T ?_
        refine gos ?_
        refine CallW.pure hlw rfl rfl ?_
        refine gos ?_
        refine CmpW.T ?_
        refine gos ?_
        refine CallW.pure hlw rfl rfl ?_
        refine gos ?_
        rw [e0, e16]
        refine CmpW.N ?_
        refine gos ?_
        refine CmpW.N ?_
        refine gos ?_
        rw [e1, e2]
        refine CmpW.N ?_
        refine gos ?_
        refine CmpW.N ?_
        refine gos ?_
        rw [← hnn]
        exact ⟨f - 1, _, 0, by omega, fgts, k + 1, by omega, by omega, rfl, rfl⟩
    · refine CmpW.N ?_
      refine gos ?_
      have : k = l.length := by omega
      subst this
      rw [List.take_length]
      exact ⟨_, 0, fgts, rfl, rfl⟩
  rintro e h ⟨rfl, rfl⟩
  refine AC.go tab ?_
  refine gos ?_
  refine RetW.plain (by simp) ?_
  rfl
end Go.Proofs.YtpbjjhpihhnomaaGreatDoor

namespace Go.Proofs.YtpbjjhpihhnomaaGreatDoor
open Go Go.Abs
attribute [local irreducible] DrawW CallW RetW AC Does CmpW
def catW : Nat → List UInt8
  | 0 => [122, 101, 114, 111]
  | 1 => [111, 110, 101]
  | 2 => [116, 119, 111]
  | 3 => [102, 101, 119]
  | 4 => [109, 97, 110, 121]
  | _ => [111, 116, 104, 101, 114]
theorem CatString_does (G : Globs) (c : Nat) (hc : c < 6) : Does Tryz.prog G 262 [.int .i64 c] [] fun ae _ => ae = .ret (.str (catW c)) := by
  have h : c = 0 ∨ c = 1 ∨ c = 2 ∨ c = 3 ∨ c = 4 ∨ c = 5 := by omega
  rcases h with rfl | rfl | rfl | rfl | rfl | rfl
  all_goals
    refine Does.body tab Tryz.func262 rfl rfl ?_
    (repeat (first | refine gof ?_ | refine fun (vv : Nat) => ?_))
    refine RetW.plain (by simp) ?_
    rfl
def catOf (w : List UInt8) : Option Nat := if catW 0 = w then some 0 else if catW 1 = w then some 1 else if catW 2 = w then some 2 else if catW 3 = w then some 3 else if catW 4 = w then some 4 else if catW 5 = w then some 5 else none
theorem catOf_lt {w : List UInt8} {c : Nat} (h : catOf w = some c) : c < 6 ∧ w = catW c := by
  unfold catOf at h
  repeat (split at h; · rename_i e; simp only [Option.some.injEq] at h; subst h; exact ⟨by omega, e.symm⟩)
  cases h
theorem CatOf_does (G : Globs) (w : List UInt8) : Does Tryz.prog G 231 [.str w] [] fun ae _ => ae = .ret (match catOf w with | some c => .tuple [.int .i64 c, .bool true] | none => .tuple [.int .i64 0, .bool false]) := by
  refine Does.body tab Tryz.func231 rfl rfl ?_
  refine gos ?_
  refine AC.rounds tab 7 ?_
  refine gos ?_
  refine CallW.pure (CatString_does G 0 (by omega)) rfl rfl ?_
  refine gos ?_
  by_cases h0 : catW 0 = w
  · refine CmpW.t (by simpa using h0) ?_
    refine gos ?_
    refine RetW.plain (by simp) ?_
    simp only [catOf, if_pos h0]; rfl
  refine CmpW.f (by simpa using h0) ?_
  refine gos ?_
  refine CallW.pure (CatString_does G 1 (by omega)) rfl rfl ?_
  refine gos ?_
  by_cases h1 : catW 1 = w
  · refine CmpW.t (by simpa using h1) ?_
    refine gos ?_
    refine RetW.plain (by simp) ?_
    simp only [catOf, if_neg h0, if_pos h1]; rfl
  refine CmpW.f (by simpa using h1) ?_
  refine gos ?_
  refine CallW.pure (CatString_does G 2 (by omega)) rfl rfl ?_
  refine gos ?_
  by_cases h2 : catW 2 = w
  · refine CmpW.t (by simpa using h2) ?_
    refine gos ?_
    refine RetW.plain (by simp) ?_
    simp only [catOf, if_neg h0, if_neg h1, if_pos h2]; rfl
  refine CmpW.f (by simpa using h2) ?_
  refine gos ?_
  refine CallW.pure (CatString_does G 3 (by omega)) rfl rfl ?_
  refine gos ?_
  by_cases h3 : catW 3 = w
  · refine CmpW.t (by simpa using h3) ?_
    refine gos ?_
    refine RetW.plain (by simp) ?_
    simp only [catOf, if_neg h0, if_neg h1, if_neg h2, if_pos h3]; rfl
  refine CmpW.f (by simpa using h3) ?_
  refine gos ?_
  refine CallW.pure (CatString_does G 4 (by omega)) rfl rfl ?_
  refine gos ?_
  by_cases h4 : catW 4 = w
  · refine CmpW.t (by simpa using h4) ?_
    refine gos ?_
    refine RetW.plain (by simp) ?_
    simp only [catOf, if_neg h0, if_neg h1, if_neg h2, if_neg h3, if_pos h4]; rfl
  refine CmpW.f (by simpa using h4) ?_
  refine gos ?_
  refine CallW.pure (CatString_does G 5 (by omega)) rfl rfl ?_
  refine gos ?_
  by_cases h5 : catW 5 = w
  · refine CmpW.t (by simpa using h5) ?_
    refine gos ?_
    refine RetW.plain (by simp) ?_
    simp only [catOf, if_neg h0, if_neg h1, if_neg h2, if_neg h3, if_neg h4, if_pos h5]; rfl
  refine CmpW.f (by simpa using h5) ?_
  refine gos ?_
  refine RetW.plain (by simp) ?_
  simp only [catOf, if_neg h0, if_neg h1, if_neg h2, if_neg h3, if_neg h4, if_neg h5]
theorem Cut_does (m : Int) (s t : List UInt8) (hs : s.length < 1000000) : Does Tryz.prog (GL m) 264 [.str s, .str t] [] fun ae _ => ae = .ret (.tuple [.str (Lib.cut s t).1, .str (Lib.cut s t).2.1, .bool (Lib.cut s t).2.2]) :=
  Does.of_calls (v := .tuple #[.string ⟨⟨(Lib.cut s t).1⟩⟩, .string ⟨⟨(Lib.cut s t).2.1⟩⟩, .bool (Lib.cut s t).2.2]) Tryz.func264 rfl rfl (fun C => by simp [RepF, RepFL]) fun C cargs hg hr => by
    rw [rep_str2 hr]
    refine (Tryz.strings_Cut ⟨⟨s⟩⟩ ⟨⟨t⟩⟩ m C.w (by simp [str_size]; omega) (glob_int hg (by simp [GL]))).mono ?_
    rintro e w' ⟨rfl, n, rfl⟩
    exact ⟨rfl, ⟨rfl, rfl, rfl, Nat.le_refl _, fun _ _ => rfl⟩⟩
theorem TrimRight_does (G : Globs) (s : List UInt8) (c : UInt8) (hc : c.toNat < 128) (hs : s.length < 1000000) : Does Tryz.prog G 265 [.str s, .str [c]] [] fun ae _ => ae = .ret (.str (Lib.trimRightB s c)) :=
  Does.of_calls (v := .string ⟨⟨Lib.trimRightB s c⟩⟩) Tryz.func265 rfl rfl (fun C => by simp [RepF]) fun C cargs hg hr => by
    rw [rep_str2 hr]
    refine (Tryz.strings_TrimRight_one ⟨⟨s⟩⟩ c hc C.w (by simp [str_size]; omega)).mono ?_
    rintro e w' ⟨rfl, rfl⟩
    exact ⟨rfl, below_same _⟩
theorem cut_le (s t : List UInt8) : (Lib.cut s t).1.length ≤ s.length := by
  unfold Lib.cut
  split
  · simp; omega
  · simp
def smpF (s : List UInt8) (a : Nat) : List UInt8 × Nat :=
  if pk s a = 64 then (Lib.trimRightB (Lib.cut (s.drop (bl s a)) [59]).1 32, bl s a + (Lib.cut (s.drop (bl s a)) [59]).1.length) else ([], bl s a)
theorem smpF_le {s : List UInt8} {a : Nat} (ha : a ≤ s.length) : a ≤ (smpF s a).2 ∧ (smpF s a).2 ≤ s.length := by
  have hb := bl_le ha
  have := cut_le (s.drop (bl s a)) [59]
  rw [List.length_drop] at this
  unfold smpF
  split <;> simp <;> omega
theorem sample_does (m : Int) (s : List UInt8) (a n : Nat) (F : Fnd) (ha : a ≤ s.length) (hs : s.length < 100000) (ver : Nat) :
    Does Tryz.prog (GL m) 235 [.ptr 0 ver 0 0] [some (rro ver s a n F)] fun ae O => ae = .ret (.str (smpF s a).1) ∧ O = [some (rro ver s (smpF s a).2 n F)] := by
  refine Does.body tab Tryz.func235 rfl rfl ?_
  refine gos ?_
  refine CallW.meth 0 (peek_does s a n F ha hs ver) rfl rfl rfl rfl rfl rfl ?_
  have hb := bl_le ha
  refine gos ?_
  by_cases hp : pk s a = 64
  · refine CmpW.f (by simp; omega) ?_
    refine gos ?_
    refine DrawW.L ?_
    refine gos ?_
    refine And.intro (And.intro (by omega) (by omega)) ?_
    refine CallW.pure (Cut_does m (s.drop (bl s a)) [59] (by simp; omega)) rfl rfl ?_
    have := cut_le (s.drop (bl s a)) [59]
    rw [List.length_drop] at this
    refine gos ?_
    refine CallW.pure (TrimRight_does _ _ 32 (by decide) (by omega)) rfl rfl ?_
    refine gos ?_
    refine RetW.plain (by simp) ?_
    simp only [smpF, if_pos hp]
    (first | exact ⟨rfl, rfl⟩ | exact ⟨trivial, rfl⟩ | exact ⟨rfl, trivial⟩ | rfl | trivial | done)
  · refine CmpW.t (by simp; omega) ?_
    refine gos ?_
    refine RetW.plain (by simp) ?_
    simp only [smpF, if_neg hp]
    (first | exact ⟨rfl, rfl⟩ | exact ⟨trivial, rfl⟩ | exact ⟨rfl, trivial⟩ | rfl | trivial | done)
end Go.Proofs.YtpbjjhpihhnomaaGreatDoor

namespace Go.Proofs.YtpbjjhpihhnomaaGreatDoor
open Go Go.Abs
attribute [local irreducible] DrawW CallW RetW AC Does CmpW
structure Rul where
  cat : Nat
  any : List (List Rel)
  smp : List UInt8
def encAll (xs : List Rel) : List AV := [.fsl (xs.map encRel)]
def encRul (x : Rul) : List AV := [.int .i64 x.cat, .fsl (x.any.map encAll), .str x.smp]
theorem encAlls_closed : ∀ rs : List (List Rel), closedLL (rs.map encAll) = true
  | [] => rfl
  | r :: rs => by simp [closedLL, encAll, closedL, closed]; exact encAlls_closed rs
def Fnd.get (F : Fnd) : Nat → Bool
  | 0 => F.c0
  | 1 => F.c1
  | 2 => F.c2
  | 3 => F.c3
  | 4 => F.c4
  | _ => F.c5
def Fnd.put (F : Fnd) : Nat → Fnd
  | 0 => { F with c0 := true }
  | 1 => { F with c1 := true }
  | 2 => { F with c2 := true }
  | 3 => { F with c3 := true }
  | 4 => { F with c4 := true }
  | _ => { F with c5 := true }
def orS : List UInt8 := [111, 114]
def orL (s : List UInt8) : Nat → Nat → Nat → List (List Rel) → Except (Int × Nat) (List (List Rel) × Nat × Nat)
  | 0, a, n, xs => .ok (xs, a, n)
  | f + 1, a, n, xs =>
    if wd s a = orS then match allF s (bl s a + 2) n with
      | .error r => .error r
      | .ok (x, b, n') => orL s f b n' (xs ++ [x])
    else .ok (xs, bl s a, n)
def anyF (s : List UInt8) (c a n : Nat) : Except (Int × Nat) (List (List Rel) × Nat × Nat) :=
  if c = 5 then .ok ([], a, n) else match allF s a n with
    | .error r => .error r
    | .ok (x, b, n') => orL s (s.length + 1 - b) b n' [x]
def rulF (s : List UInt8) (a n : Nat) (F : Fnd) : Except (Int × Nat) (Rul × Nat × Nat × Fnd) :=
  match catOf (wd s a) with
  | none => .error (1, bl s a)
  | some c =>
    if F.get c then .error (7, bl s a)
    else if pre s (bl s (bl s a + (wd s a).length)) [58] then match anyF s c (bl s (bl s a + (wd s a).length) + 1) n with
      | .error r => .error r
      | .ok (xs, b, n') => .ok (⟨c, xs, (smpF s b).1⟩, (smpF s b).2, n', F.put c)
    else .error (1, bl s (bl s a + (wd s a).length))
theorem orL_le {s : List UInt8} : ∀ (f a n : Nat) (xs out : List (List Rel)) (b n' : Nat), a ≤ s.length → n ≤ 200 → orL s f a n xs = .ok (out, b, n') → b ≤ s.length ∧ a ≤ b ∧ n' ≤ 200
  | 0, a, n, xs, out, b, n', ha, hn, h => by simp [orL] at h; omega
  | f + 1, a, n, xs, out, b, n', ha, hn, h => by
    have hb := bl_le ha
    unfold orL at h
    split at h
    · rename_i hw
      have hl : bl s a + (wd s a).length ≤ s.length := tw_le _ hb.2
      rw [hw] at hl
      simp only [orS, List.length_cons, List.length_nil] at hl
      split at h; · cases h
      rename_i x c n2 hv
      have h1 := allF_le (by omega) hv
      have := orL_le f c _ _ out b n' h1.2.1 h1.2.2 h
      omega
    · simp only [Except.ok.injEq, Prod.mk.injEq] at h
      omega
theorem anyF_le {s : List UInt8} {c a n : Nat} (ha : a ≤ s.length) (hn : n ≤ 200) {xs : List (List Rel)} {b n' : Nat} (h : anyF s c a n = .ok (xs, b, n')) : a ≤ b ∧ b ≤ s.length ∧ n' ≤ 200 := by
  unfold anyF at h
  split at h
  · simp only [Except.ok.injEq, Prod.mk.injEq] at h; omega
  · split at h; · cases h
    rename_i x c n2 hv
    have h1 := allF_le ha hv
    have := orL_le _ _ _ _ _ _ _ h1.2.1 h1.2.2 h
    omega
theorem rulF_le {s : List UInt8} {a n : Nat} {F : Fnd} (ha : a ≤ s.length) (hn : n ≤ 200) {x : Rul} {b n' : Nat} {F' : Fnd} (h : rulF s a n F = .ok (x, b, n', F')) : a < b ∧ b ≤ s.length ∧ n' ≤ 200 := by
  have hb := bl_le ha
  have hl : bl s a + (wd s a).length ≤ s.length := tw_le _ hb.2
  have hb2 := bl_le hl
  unfold rulF at h
  split at h; · cases h
  split at h; · cases h
  split at h
  · rename_i hp
    have hle := pre_le hp (by simp)
    simp only [List.length_cons, List.length_nil] at hle
    split at h; · cases h
    rename_i xs c n2 hv
    have h1 := anyF_le (by omega) hn hv
    have h2 := smpF_le h1.2.1
    simp only [Except.ok.injEq, Prod.mk.injEq] at h
    omega
  · cases h
theorem rule_does (m : Int) (s : List UInt8) (a n : Nat) (F : Fnd) (ha : a ≤ s.length) (hs : s.length < 100000) (hn : n ≤ 200) (ver : Nat) :
    Does Tryz.prog (GL m) 190 [.ptr 0 ver 0 0] [some (rro ver s a n F)] fun ae O => match rulF s a n F with
      | .error r => ae = .panic (rfault r)
      | .ok (x, b, n', F') => ae = .ret (.agg (encRul x)) ∧ O = [some (rro ver s b n' F')] := by
  refine Does.bodyA tab Tryz.func190 rfl rfl ?_
  refine AC.step tab ?_
  refine gos ?_
  intro v1
  refine gos ?_
  refine AC.step tab ?_
  refine gos ?_
  refine CallW.meth 0 (word_does s a n F ha hs ver) rfl rfl rfl rfl rfl rfl ?_
  have hb := bl_le ha
  have hl : bl s a + (wd s a).length ≤ s.length := tw_le _ hb.2
  have hb2 := bl_le hl
  refine gos ?_
  refine AC.step tab ?_
  refine gos ?_
  refine AC.step tab ?_
  refine gos ?_
  refine CallW.pure (CatOf_does (GL m) (wd s a)) rfl (by cases catOf (wd s a) <;> rfl) ?_
  cases hc : catOf (wd s a) with
  | none =>
    refine gos ?_
    refine AC.step tab ?_
    refine gos ?_
    refine CallW.of0 (rfail_does _ _) rfl ?_
    rintro ae ⟨rfl, _⟩
    refine ⟨rfl, ?_⟩
    refine gos ?_
    exact ⟨by simp, by simp [rulF, hc]⟩
  | some c =>
  simp only
  refine gos ?_
  obtain ⟨hc6, hwc⟩ := catOf_lt hc
  -- is it there already?
  refine AC.cutF tab (fun e h => F.get c = false ∧ e = [.ptr 0 ver 0 0, .any, .ptr 1 v1 0 0, .str (wd s a), .any, .int .i64 c] ++ List.replicate 67 .any ∧ h = [some (rro ver s (bl s a) n F), some ⟨v1, 235, 3, [[.int .i64 0, .nils, .str []]]⟩]) ?_ ?_
  · have h6 : c = 0 ∨ c = 1 ∨ c = 2 ∨ c = 3 ∨ c = 4 ∨ c = 5 := by omega
    rcases h6 with rfl | rfl | rfl | rfl | rfl | rfl
    all_goals
      (repeat (first | refine gof ?_ | refine fun (vv : Nat) => ?_))
      refine And.intro (fun hF => ?_) (fun hF => ?_)
      · refine gos ?_
        refine CallW.of0 (rfail_does _ _) rfl ?_
        rintro ae ⟨rfl, _⟩
        refine ⟨rfl, ?_⟩
        refine gos ?_
        exact ⟨by simp, by simp [rulF, hc, Fnd.get, hF]⟩
      · refine gos ?_
        exact ⟨_, 2, fgts, hF, rfl, rfl⟩
  rintro e h ⟨hF, rfl, rfl⟩
  refine AC.cutF tab (fun e h => e = [.ptr 0 ver 0 0, .any, .ptr 1 v1 0 0, .str (wd s a), .any, .int .i64 c] ++ List.replicate 67 .any ∧ h = [some (rro ver s (bl s a) n (F.put c)), some ⟨v1, 235, 3, [[.int .i64 0, .nils, .str []]]⟩]) ?_ ?_
  · have h6 : c = 0 ∨ c = 1 ∨ c = 2 ∨ c = 3 ∨ c = 4 ∨ c = 5 := by omega
    rcases h6 with rfl | rfl | rfl | rfl | rfl | rfl
    all_goals
      (repeat (first | refine gof ?_ | refine fun (vv : Nat) => ?_))
      exact ⟨_, 2, fgts, rfl, rfl⟩
  rintro e h ⟨rfl, rfl⟩
  refine AC.step tab ?_
  refine gos ?_
  refine AC.step tab ?_
  refine gos ?_
  have w1 := want_does (G := GL m) s [58] (bl s a + (wd s a).length) n (F.put c) hl hs ver
  cases hp : pre s (bl s (bl s a + (wd s a).length)) [58] with
  | false =>
    rw [hp] at w1
    simp only at w1
    refine CallW.pan1 0 w1 rfl rfl rfl rfl rfl (fun s' hl => ?_)
    refine gos ?_
    exact ⟨by rw [hl]; simp, by simp [rulF, hc, hF, hp]⟩
  | true =>
  have hle := pre_le hp (by simp)
  simp only [List.length_cons, List.length_nil] at hle
  rw [hp] at w1
  simp only [List.length_cons, List.length_nil, Nat.zero_add] at w1
  refine CallW.meth 0 w1 rfl rfl rfl rfl rfl rfl ?_
  obtain ⟨d0, hd0⟩ : ∃ d0, d0 = bl s (bl s a + (wd s a).length) + 1 := ⟨_, rfl⟩
  have hd0l : d0 ≤ s.length := by omega
  have hspec : ∀ X, anyF s c d0 n = X → rulF s a n F = match X with
      | .error r => .error r
      | .ok (xs, b, n') => .ok (⟨c, xs, (smpF s b).1⟩, (smpF s b).2, n', F.put c) := by
    rintro X rfl
    simp only [rulF, hc, hF, hp, Bool.false_eq_true, if_false, if_true, hd0]
  rw [← hd0]
  clear w1
  refine gos ?_
  refine AC.step tab ?_
  refine gos ?_
  intro v2
  refine gos ?_
  -- its relations
  refine AC.cutF tab (fun e h => ∃ xs d n', anyF s c d0 n = .ok (xs, d, n') ∧ d ≤ s.length ∧ n' ≤ 200 ∧ e = [.ptr 0 ver 0 0, .any, .ptr 1 v1 0 0, .any, .any, .any, .any, .ptr 2 v2 0 0] ++ List.replicate 65 .any ∧
    ((xs = [] ∧ h = [some (rro ver s d n' (F.put c)), some ⟨v1, 235, 3, [[.int .i64 0, .nils, .str []]]⟩, some ⟨v2, 235, 3, [[.int .i64 c, .nils, .str []]]⟩]) ∨
      ∃ vw o3, h = [some (rro ver s d n' (F.put c)), some ⟨v1, 235, 3, [[.int .i64 0, .nils, .str []]]⟩, some ⟨v2, 235, 3, [[.int .i64 c, .sl 4 vw, .str []]]⟩, o3, some ⟨vw, 236, 1, xs.map encAll⟩])) ?_ ?_
  · refine gos ?_
    by_cases h5 : c = 5
    · refine CmpW.N ?_
      refine gos ?_
      exact ⟨_, 3, fgts, [], d0, n, by simp [anyF, h5], hd0l, hn, rfl, .inl ⟨rfl, rfl⟩⟩
    · refine CmpW.T ?_
      refine gos ?_
      have r1 := all_does m s d0 n (F.put c) hd0l hs hn ver
      cases hA : allF s d0 n with
      | error r =>
        rw [hA] at r1
        simp only at r1
        have hE := hspec (.error r) (by simp [anyF, h5, hA])
        refine DrawW.P (.take 0 (.take 2 (.fork (.cons 1 (.take 3 (.take 4 (.take 5 (.take 6 (.take 7 .done))))) (.cons 3 (.fork (.cons 1 (.take 4 (.take 5 (.take 6 (.take 7 .done)))) (.cons 4 (.take 1 (.take 5 (.take 6 (.take 7 .done)))) .nil))) .nil))))) ?_
        (repeat' (first | exact trivial | refine gon ?_ | refine CallW.pan1 0 r1 rfl rfl rfl rfl rfl (fun s' hl => ?_) | refine And.intro ?_ ?_))
        all_goals first | (rw [hl]; simp; done) | (simp only [hE]; done)
      | ok q =>
      obtain ⟨x, b, n1⟩ := q
      rw [hA] at r1
      simp only at r1
      have h1 := allF_le hd0l hA
      refine DrawW.P (.take 0 (.take 2 (.fork (.cons 1 (.take 3 (.take 4 (.take 5 (.take 6 (.take 7 .done))))) (.cons 3 (.fork (.cons 1 (.take 4 (.take 5 (.take 6 (.take 7 .done)))) (.cons 4 (.take 1 (.take 5 (.take 6 (.take 7 .done)))) .nil))) .nil))))) ?_
      (repeat' (first | exact trivial | refine gon ?_ | refine CallW.meth 0 r1 rfl rfl rfl rfl rfl rfl ?_ | refine fun (vv : Nat) => ?_ | (refine And.intro (And.intro (fun y hy => by rcases List.mem_singleton.1 hy with rfl; rfl) (fun y hy => by rcases List.mem_singleton.1 hy with rfl; rfl)) ?_; refine And.intro (And.intro rfl trivial) ?_) | refine gobnd ?_ | refine And.intro ?_ ?_))
      all_goals
        refine AC.loopC tab (fun f e h => ∃ (xs : List (List Rel)) (b' n' vw : Nat) (o3 : Option AObj), s.length < f + b' ∧ b' ≤ s.length ∧ n' ≤ 200 ∧ xs.length ≤ b' + 1 ∧ orL s (s.length + 1 - b) b n1 [x] = orL s f b' n' xs ∧
          e = [.ptr 0 ver 0 0, .any, .ptr 1 v1 0 0, .any, .any, .any, .any, .ptr 2 v2 0 0] ++ List.replicate 65 .any ∧
          h = [some (rro ver s b' n' (F.put c)), some ⟨v1, 235, 3, [[.int .i64 0, .nils, .str []]]⟩, some ⟨v2, 235, 3, [[.int .i64 c, .sl 4 vw, .str []]]⟩, o3, some ⟨vw, 236, 1, xs.map encAll⟩])
          (s.length + 1 - b) ⟨_, fgts, [x], b, n1, vv, _, by omega, h1.2.1, h1.2.2, by simp, rfl, rfl, rfl⟩ ?_
        rintro f e h ⟨xs, b', n', vw, o3, hf, hb', hn', hxl, hal, rfl, rfl⟩
        obtain ⟨f, rfl⟩ : ∃ q, f = q + 1 := ⟨f - 1, by omega⟩
        have hq1 := bl_le hb'
        have hl2 : bl s b' + (wd s b').length ≤ s.length := tw_le _ hq1.2
        refine gos ?_
        by_cases hw : wd s b' = orS
        · have hw' := hw
          unfold orS at hw'
          rw [hw'] at hl2
          simp only [List.length_cons, List.length_nil] at hl2
          refine CallW.meth 0 (next_t (bl s b' + 2) hw' rfl n' (F.put c) hb' hs ver) rfl rfl rfl rfl rfl rfl ?_
          refine gos ?_
          have r2 := all_does m s (bl s b' + 2) n' (F.put c) (by omega) hs hn' ver
          simp only [orL, hw, if_true] at hal
          cases hA2 : allF s (bl s b' + 2) n' with
          | error r =>
            rw [hA2] at r2 hal
            simp only at r2 hal
            have hE := hspec (.error r) (by simp [anyF, h5, hA, hal])
            refine DrawW.P (.take 0 (.take 2 (.fork (.cons 1 (.take 3 (.take 4 (.take 5 (.take 6 (.take 7 .done))))) (.cons 3 (.fork (.cons 1 (.take 4 (.take 5 (.take 6 (.take 7 .done)))) (.cons 4 (.take 1 (.take 5 (.take 6 (.take 7 .done)))) .nil))) .nil))))) ?_
            (repeat' (first | exact trivial | refine gon ?_ | refine CallW.pan1 0 r2 rfl rfl rfl rfl rfl (fun s' hl => ?_) | refine And.intro ?_ ?_))
            all_goals first | (rw [hl]; simp; done) | (simp only [hE]; done)
          | ok q =>
            obtain ⟨y, d2, n2⟩ := q
            rw [hA2] at r2 hal
            simp only at r2 hal
            have h2 := allF_le (by omega) hA2
            refine DrawW.P (.take 0 (.take 2 (.fork (.cons 1 (.take 3 (.take 4 (.take 5 (.take 6 (.take 7 .done))))) (.cons 3 (.fork (.cons 1 (.take 4 (.take 5 (.take 6 (.take 7 .done)))) (.cons 4 (.take 1 (.take 5 (.take 6 (.take 7 .done)))) .nil))) .nil))))) ?_
            (repeat' (first | exact trivial | refine gon ?_ | refine CallW.meth 0 r2 rfl rfl rfl rfl rfl rfl ?_ | refine fun (vv : Nat) => ?_ | (refine And.intro (And.intro (fun y hy => by rcases List.mem_singleton.1 hy with rfl; rfl) (fun y hy => by rcases List.mem_singleton.1 hy with rfl; rfl)) ?_; refine And.intro (And.intro rfl trivial) ?_) | refine gobnd ?_ | refine And.intro ?_ ?_))
            all_goals
              refine ⟨f, _, 5, by omega, fgts, xs ++ [y], d2, n2, vv, o3, by omega, h2.2.1, h2.2.2, by simp; omega, hal, rfl, ?_⟩
              rw [List.map_append]; rfl
        · simp only [orL, if_neg hw] at hal
          refine CallW.meth 0 (next_f hw n' (F.put c) hb' hs ver) rfl rfl rfl rfl rfl rfl ?_
          refine gos ?_
          exact ⟨_, 5, fgts, xs, bl s b', n', by simp [anyF, h5, hA, hal], hq1.2, hn', rfl, .inr ⟨vw, o3, rfl⟩⟩
  rintro e h ⟨xs, d, n', hA, hd, hn', rfl, ⟨rfl, rfl⟩ | ⟨vw, o3, rfl⟩⟩
  · have hE := hspec _ hA
    refine AC.go tab ?_
    refine gos ?_
    refine CallW.meth 0 (sample_does m s d n' (F.put c) hd hs ver) rfl rfl rfl rfl rfl rfl ?_
    refine gos ?_
    refine RetW.wk (r' := .agg (encRul ⟨c, [], (smpF s d).1⟩)) (s' := [some (rro ver s (smpF s d).2 n' (F.put c)), some ⟨v1, 235, 3, [[.int .i64 c, .nils, .str (smpF s d).1]]⟩, some ⟨v2, 235, 3, [[.int .i64 c, .nils, .str (smpF s d).1]]⟩]) (by simp) rfl ?_ ?_
    · exact Wk.agg (cs := [.int .i64 c, .nils, .str (smpF s d).1]) (cs' := encRul ⟨c, [], (smpF s d).1⟩) rfl (Wk.nil (k := 1) rfl)
    · simp only [hE]
      (first | exact ⟨rfl, rfl⟩ | exact ⟨trivial, rfl⟩ | exact ⟨rfl, trivial⟩ | rfl | trivial | done)
  · have hE := hspec _ hA
    refine AC.go tab ?_
    refine gos ?_
    refine CallW.meth 0 (sample_does m s d n' (F.put c) hd hs ver) rfl rfl rfl rfl rfl rfl ?_
    refine gos ?_
    refine RetW.wk (r' := .agg (encRul ⟨c, xs, (smpF s d).1⟩)) (s' := [some (rro ver s (smpF s d).2 n' (F.put c)), some ⟨v1, 235, 3, [[.int .i64 c, .sl 4 vw, .str (smpF s d).1]]⟩, some ⟨v2, 235, 3, [[.int .i64 c, .sl 4 vw, .str (smpF s d).1]]⟩, o3, none]) (by simp) rfl ?_ ?_
    · exact Wk.agg (cs := [.int .i64 c, .sl 4 vw, .str (smpF s d).1]) (cs' := encRul ⟨c, xs, (smpF s d).1⟩) rfl (Wk.row (k := 1) (i := 4) (o := ⟨vw, 236, 1, xs.map encAll⟩) rfl rfl rfl (encAlls_closed xs))
    · simp only [hE]
      (first | exact ⟨rfl, rfl⟩ | exact ⟨trivial, rfl⟩ | exact ⟨rfl, trivial⟩ | rfl | trivial | done)
end Go.Proofs.YtpbjjhpihhnomaaGreatDoor
