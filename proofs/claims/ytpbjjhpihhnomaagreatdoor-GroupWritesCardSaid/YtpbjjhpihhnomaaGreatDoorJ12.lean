/- The reader of patterns: all of one. -/
import Derived.Test.YtpbjjhpihhnomaaGreatDoorJ04
import Derived.Sort.LotD5
import Derived.Test.YtpbjjhpihhnomaaGreatDoorJ11
set_option linter.unusedVariables false
set_option linter.unusedSimpArgs false
set_option maxRecDepth 100000
set_option maxHeartbeats 4000000

namespace Go.Proofs.YtpbjjhpihhnomaaGreatDoor
open Go Go.Abs
attribute [local irreducible] DrawW CallW RetW AC Does CmpW
variable {G : Globs}
def lenT : List UInt8 := (List.range 256).map fun n => UInt8.ofNat (Sort.bitsLen n)
theorem lenT_at (L : List UInt8) (hL : L = lenT) (n : Nat) (h : n < 256) : L[n]? = some (UInt8.ofNat (Sort.bitsLen n)) := by
  subst hL
  simp [lenT, h]
theorem bsl_le (n k : Nat) (h : n < 2 ^ k) : Sort.bitsLen n ≤ k := (Sort.bitsLen_le_iff n k).2 h
theorem bsl_u8 (n : Nat) (h : n < 256) : (UInt8.ofNat (Sort.bitsLen n)).toNat = Sort.bitsLen n := by
  have := bsl_le n 8 h
  simp; omega
theorem bsl_shift (n : Nat) (h : 256 ≤ n) : Sort.bitsLen n = 8 + Sort.bitsLen (n / 256) := by
  have key : ∀ k, Sort.bitsLen n ≤ 8 + k ↔ Sort.bitsLen (n / 256) ≤ k := fun k => by
    rw [Sort.bitsLen_le_iff, Sort.bitsLen_le_iff, Nat.pow_add, Nat.div_lt_iff_lt_mul (by decide)]
    omega
  have h1 := (key (Sort.bitsLen (n / 256))).2 (Nat.le_refl _)
  by_cases h8 : 8 ≤ Sort.bitsLen n
  · have h2 := (key (Sort.bitsLen n - 8)).1 (by omega)
    omega
  · have := (Sort.bitsLen_le_iff n 8).1 (by omega)
    omega
theorem w8 (n : Nat) (h : n < 256) : IntKind.u8.wrap (n : Int) = n := by
  rw [IntKind.wrap_u8]; omega
theorem len64_does (n : Nat) (h : n < 65536) : Does Tryz.prog G 217 [.int .u64 n] [] fun ae _ => ae = .ret (.int .i64 (Sort.bitsLen n)) := by
  refine Does.body tab Tryz.func217 rfl rfl ?_
  refine gos ?_
  refine CmpW.N ?_
  refine gos ?_
  refine CmpW.N ?_
  refine gos ?_
  by_cases h8 : 256 ≤ n
  · refine CmpW.T ?_
    refine gos ?_
    refine And.intro (by decide) (Exists.intro ((n / 256 : Nat) : Int) (And.intro ?_ ?_))
    · show Int.fdiv (n : Int) ((256 : Nat) : Int) = _
      rw [Int.ofNat_fdiv]
    refine gos ?_
    rw [w8 (n / 256) (by omega)]
    refine gos ?_
    refine And.intro ar ⟨_, lenT_at _ (by decide +kernel) (n / 256) (by omega), ?_⟩
    rw [bsl_u8 (n / 256) (by omega)]
    have h1 := bsl_le (n / 256) 8 (by omega)
    have h2 := bsl_shift n h8
    refine gos ?_
    refine RetW.plain (by simp) ?_
    rw [h2]
    simp
    done
  · refine CmpW.N ?_
    refine gos ?_
    rw [w8 n (by omega)]
    refine gos ?_
    refine And.intro ar ⟨_, lenT_at _ (by decide +kernel) n (by omega), ?_⟩
    rw [bsl_u8 n (by omega)]
    have h1 := bsl_le n 8 (by omega)
    refine gos ?_
    refine RetW.plain (by simp) ?_
    simp
    done
theorem lenU_does (n : Nat) (h : n < 65536) : Does Tryz.prog G 156 [.int .u64 n] [] fun ae _ => ae = .ret (.int .i64 (Sort.bitsLen n)) := by
  refine Does.body tab Tryz.func156 rfl rfl ?_
  refine gos ?_
  refine CallW.pure (len64_does n h) rfl rfl ?_
  refine gos ?_
  refine RetW.plain (by simp) ?_
  rfl
theorem shl1 (k : Nat) (h : k ≤ 62) : IntKind.u64.wrap (1 * 2 ^ (min (k : Int).toNat 64)) = ((1 <<< k : Nat) : Int) := by
  have h2 : (2 : Nat) ^ k ≤ 2 ^ 62 := Nat.pow_le_pow_right (by decide) h
  rw [IntKind.wrap_u64, Nat.one_shiftLeft, Int.toNat_natCast, Nat.min_eq_left (by omega), Int.one_mul, show ((2 : Int) ^ k) = ((2 ^ k : Nat) : Int) by push_cast; rfl]
  generalize (2 : Nat) ^ k = p at h2
  omega
theorem npow_does (n : Nat) (h : n < 65536) : Does Tryz.prog G 257 [.int .i64 n] [] fun ae _ => ae = .ret (.int .u64 (1 <<< Sort.bitsLen n : Nat)) := by
  have hb := bsl_le n 16 h
  refine Does.body tab Tryz.func257 rfl rfl ?_
  refine gos ?_
  rw [show IntKind.u64.wrap (n : Int) = n by rw [IntKind.wrap_u64]; omega]
  refine gos ?_
  refine CallW.pure (lenU_does n h) rfl rfl ?_
  refine gos ?_
  refine And.intro ar (Exists.intro _ (And.intro (shl1 (Sort.bitsLen n) (by omega)) ?_))
  refine gos ?_
  refine RetW.plain (by simp) ?_
  rfl
theorem xor64 (a b : Nat) (ha : a < 18446744073709551616) (hb : b < 18446744073709551616) : IntKind.u64.wrap ((BitVec.ofInt IntKind.u64.bits (a : Int) ^^^ BitVec.ofInt IntKind.u64.bits (b : Int)).toNat : Int) = ((a ^^^ b : Nat) : Int) := by
  have hx : a ^^^ b < 2 ^ 64 := Nat.xor_lt_two_pow (by omega) (by omega)
  have h1 : (BitVec.ofInt 64 (a : Int)).toNat = a := by
    rw [BitVec.ofInt_natCast, BitVec.toNat_ofNat]; exact Nat.mod_eq_of_lt (by omega)
  have h2 : (BitVec.ofInt 64 (b : Int)).toNat = b := by
    rw [BitVec.ofInt_natCast, BitVec.toNat_ofNat]; exact Nat.mod_eq_of_lt (by omega)
  show IntKind.u64.wrap (((BitVec.ofInt 64 (a : Int) ^^^ BitVec.ofInt 64 (b : Int)).toNat : Nat) : Int) = _
  rw [BitVec.toNat_xor, h1, h2, IntKind.wrap_u64]
  omega
theorem and64 (a b : Nat) (ha : a < 18446744073709551616) (hb : b < 18446744073709551616) : IntKind.u64.wrap ((BitVec.ofInt IntKind.u64.bits (a : Int) &&& BitVec.ofInt IntKind.u64.bits (b : Int)).toNat : Int) = ((a &&& b : Nat) : Int) := by
  have hx : a &&& b ≤ b := Nat.and_le_right
  have h1 : (BitVec.ofInt 64 (a : Int)).toNat = a := by
    rw [BitVec.ofInt_natCast, BitVec.toNat_ofNat]; exact Nat.mod_eq_of_lt (by omega)
  have h2 : (BitVec.ofInt 64 (b : Int)).toNat = b := by
    rw [BitVec.ofInt_natCast, BitVec.toNat_ofNat]; exact Nat.mod_eq_of_lt (by omega)
  show IntKind.u64.wrap (((BitVec.ofInt 64 (a : Int) &&& BitVec.ofInt 64 (b : Int)).toNat : Nat) : Int) = _
  rw [BitVec.toNat_and, h1, h2, IntKind.wrap_u64]
  omega
theorem shl64 (x k m : Nat) (hk : k < 64) (hm : m = 2 ^ k) : IntKind.u64.wrap ((x : Int) * 2 ^ (min ((k : Nat) : Int).toNat 64)) = ((x * m % 18446744073709551616 : Nat) : Int) := by
  subst hm
  rw [IntKind.wrap_u64, Int.toNat_natCast, Nat.min_eq_left (by omega), show ((2 : Int) ^ k) = ((2 ^ k : Nat) : Int) by push_cast; rfl]
  rw [← Int.natCast_mul]
  omega
def rndO (v X : Nat) : AObj := ⟨v, 373, 1, [[.int .u64 X]]⟩
theorem nextR_does (X v : Nat) (hX : X < 18446744073709551616) : Does Tryz.prog G 258 [.ptr 0 v 0 0] [some (rndO v X)] fun ae O =>
    ae = .ret (.int .u64 (Sort.xorNextN X : Nat)) ∧ O = [some (rndO v (Sort.xorNextN X))] := by
  obtain ⟨A, hA⟩ : ∃ A : Nat, A = X ^^^ (X * 8192 % 18446744073709551616) := ⟨_, rfl⟩
  obtain ⟨B, hB⟩ : ∃ B : Nat, B = A ^^^ (A / 128) := ⟨_, rfl⟩
  obtain ⟨C, hC⟩ : ∃ C : Nat, C = B ^^^ (B * 131072 % 18446744073709551616) := ⟨_, rfl⟩
  have lA : A < 18446744073709551616 := by rw [hA]; exact Nat.xor_lt_two_pow (n := 64) (by omega) (by omega)
  have lB : B < 18446744073709551616 := by rw [hB]; exact Nat.xor_lt_two_pow (n := 64) (by omega) (by omega)
  have hv : Sort.xorNextN X = C := by unfold Sort.xorNextN; simp only []; rw [← hA, ← hB, ← hC]
  rw [hv]
  refine Does.body tab Tryz.func258 rfl rfl ?_
  refine gos ?_
  refine DrawW.L ?_
  (repeat (first | refine gof ?_ | refine fun (vv : Nat) => ?_))
  refine And.intro (by decide) (Exists.intro _ (And.intro (shl64 X 13 8192 (by decide) (by decide)) ?_))
  (repeat (first | refine gof ?_ | refine fun (vv : Nat) => ?_))
  rw [xor64 X _ hX (by omega), ← hA]
  (repeat (first | refine gof ?_ | refine fun (vv : Nat) => ?_))
  refine DrawW.L ?_
  (repeat (first | refine gof ?_ | refine fun (vv : Nat) => ?_))
  refine And.intro (by decide) (Exists.intro ((A / 128 : Nat) : Int) (And.intro (by show Int.fdiv (A : Int) ((128 : Nat) : Int) = _; rw [Int.ofNat_fdiv]) ?_))
  (repeat (first | refine gof ?_ | refine fun (vv : Nat) => ?_))
  rw [xor64 A _ lA (by omega), ← hB]
  (repeat (first | refine gof ?_ | refine fun (vv : Nat) => ?_))
  refine DrawW.L ?_
  (repeat (first | refine gof ?_ | refine fun (vv : Nat) => ?_))
  refine And.intro (by decide) (Exists.intro _ (And.intro (shl64 B 17 131072 (by decide) (by decide)) ?_))
  (repeat (first | refine gof ?_ | refine fun (vv : Nat) => ?_))
  rw [xor64 B _ lB (by omega), ← hC]
  (repeat (first | refine gof ?_ | refine fun (vv : Nat) => ?_))
  refine RetW.plain (by simp) ?_
  exact ⟨rfl, rfl⟩
def bpS (a L M i0 : Nat) : Nat → UInt64 × Array Rg → UInt64 × Array Rg
  | 0, st => st
  | t + 1, st => Sort.breakStep a L M (bpS a L M i0 t st) (i0 + t)
theorem bpS_size (a L M i0 : Nat) (st : UInt64 × Array Rg) : ∀ t, (bpS a L M i0 t st).2.size = st.2.size
  | 0 => rfl
  | t + 1 => by
    show (Sort.breakStep a L M (bpS a L M i0 t st) (i0 + t)).2.size = _
    unfold Sort.breakStep
    simp only
    rw [swp_size, bpS_size a L M i0 st t]
theorem brkR_does (d : Array Rg) (a b ver : Nat) (hab : a ≤ b) (hb : b ≤ d.size) (hs : d.size < 65536) :
    Does Tryz.prog G 210 [.sl 0 ver, .int .i64 a, .int .i64 b, cmpV] [some (rgs ver d)] fun ae O => ae = .ret (.tuple []) ∧ O = [some (rgs ver (Sort.breakPatterns d a b))] := by
  refine Does.bodyA tab Tryz.func210 rfl rfl ?_
  refine AC.step tab ?_
  refine gos ?_
  obtain ⟨L, hL⟩ : ∃ L, L = b - a := ⟨_, rfl⟩
  simp only [show (b : Int) - (a : Int) = (L : Int) by omega]
  refine AC.step tab ?_
  refine gos ?_
  by_cases h8 : 8 ≤ L
  case neg =>
    refine CmpW.N ?_
    refine gos ?_
    refine AC.condA ?_
    refine gos ?_
    refine AC.go tab ?_
    refine gos ?_
    refine RetW.plain (by simp) ?_
    unfold Sort.breakPatterns
    rw [if_neg (by omega)]
    exact ⟨rfl, rfl⟩
  refine CmpW.T ?_
  refine gos ?_
  refine AC.condA ?_
  refine gos ?_
  refine AC.step tab ?_
  refine gos ?_
  rw [show IntKind.u64.wrap (L : Int) = L by rw [IntKind.wrap_u64]; omega]
  refine gos ?_
  intro v
  refine gos ?_
  refine AC.step tab ?_
  refine gos ?_
  refine CallW.pure (npow_does L (by omega)) rfl rfl ?_
  refine gos ?_
  refine AC.step tab ?_
  refine gos ?_
  refine And.intro (by decide) ?_
  refine gos ?_
  have q4 : (L : Int).tdiv 4 = ((L / 4 : Nat) : Int) := rfl
  obtain ⟨M, hM⟩ : ∃ M : Nat, M = 1 <<< Sort.bitsLen L := ⟨_, rfl⟩
  have hM1 : 1 ≤ M := by rw [hM, Nat.one_shiftLeft]; exact Nat.two_pow_pos _
  have hM2 : M ≤ 2 * L := by rw [hM, Nat.one_shiftLeft]; exact Sort.two_pow_bitsLen_le (by omega)
  obtain ⟨i0, hi0⟩ : ∃ i0, i0 = a + L / 4 * 2 - 1 := ⟨_, rfl⟩
  simp only [q4, show (a : Int) + ((L / 4 : Nat) : Int) * 2 - 1 = (i0 : Int) by omega, ← hM]
  have hB : Sort.breakPatterns d a b = (bpS a L M i0 3 (UInt64.ofNat L, d)).2 := by
    unfold Sort.breakPatterns
    rw [← hL, if_pos h8, hM, hi0]
    rfl
  have hu : (UInt64.ofNat L).toNat = L := by simp; omega
  refine AC.blk ?_
  refine AC.loopA (fun f e h => ∃ t, t + f = 4 ∧ t ≤ 3 ∧ e = [.sl 0 ver, .int .i64 a, .any, .any, .any, .any, .any, .any, .int .i64 L, .ptr 1 v 0 0, .int .u64 M, .int .i64 (i0 + t : Nat)] ++ List.replicate 55 .any ∧ h = [some (rgs ver (bpS a L M i0 t (UInt64.ofNat L, d)).2), some (rndO v (bpS a L M i0 t (UInt64.ofNat L, d)).1.toNat)])
    4 ⟨_, fgts, 0, by omega, by omega, rfl, by rw [show (bpS a L M i0 0 (UInt64.ofNat L, d)).1.toNat = L from hu]; rfl⟩ ?_
  rintro f e h ⟨t, hf, ht, rfl, rfl⟩
  refine AC.step tab ?_
  refine gos ?_
  refine And.intro (by decide) ?_
  refine gos ?_
  simp only [q4]
  by_cases h3 : t < 3
  case neg =>
    refine CmpW.N ?_
    refine gos ?_
    refine RetW.plain (by simp) ?_
    rw [hB, show (3 : Nat) = t by omega]
    exact ⟨rfl, rfl⟩
  refine CmpW.T ?_
  refine gos ?_
  obtain ⟨st, hst⟩ : ∃ st, st = bpS a L M i0 t (UInt64.ofNat L, d) := ⟨_, rfl⟩
  have hsz : st.2.size = d.size := by rw [hst]; exact bpS_size a L M i0 _ t
  obtain ⟨X, dd⟩ := st
  rw [← hst]
  simp only at hsz ⊢
  refine AC.seqA ?_
  refine AC.blk ?_
  refine AC.step tab ?_
  refine gos ?_
  refine CallW.meth 1 (nextR_does X.toNat v X.toNat_lt) rfl rfl rfl rfl rfl rfl ?_
  have hY : (Sort.xorNext X).toNat = Sort.xorNextN X.toNat := Sort.xorNext_toNat X
  obtain ⟨Y, hYd⟩ : ∃ Y, Y = Sort.xorNext X := ⟨_, rfl⟩
  rw [← hY, ← hYd]
  refine gos ?_
  rw [show IntKind.u64.wrap ((M : Int) - 1) = ((M - 1 : Nat) : Int) by rw [IntKind.wrap_u64]; omega]
  refine gos ?_
  rw [and64 _ (M - 1) Y.toNat_lt (by omega)]
  obtain ⟨q, hq⟩ : ∃ q : Nat, q = Y.toNat &&& (M - 1) := ⟨_, rfl⟩
  have hqM : q ≤ M - 1 := by rw [hq]; exact Nat.and_le_right
  rw [← hq]
  refine gos ?_
  rw [show IntKind.i64.wrap (q : Int) = q by rw [IntKind.wrap_i64]; omega]
  refine gos ?_
  obtain ⟨o, ho⟩ : ∃ o, o = if q ≥ L then q - L else q := ⟨_, rfl⟩
  have hoL : o < L := by rw [ho]; split <;> omega
  have hstep : bpS a L M i0 (t + 1) (UInt64.ofNat L, d) = (Y, Sort.swp dd (i0 + t) (a + o)) := by
    show Sort.breakStep a L M (bpS a L M i0 t (UInt64.ofNat L, d)) (i0 + t) = _
    rw [← hst]
    unfold Sort.breakStep
    simp only
    rw [← hYd, ← hq, ← ho]
  refine AC.cutF tab (fun e h => e = [.sl 0 ver, .int .i64 a, .any, .any, .any, .any, .any, .any, .int .i64 L, .ptr 1 v 0 0, .int .u64 M, .int .i64 (i0 + t : Nat), .int .i64 o] ++ List.replicate 54 .any ∧ h = [some (rgs ver dd), some (rndO v Y.toNat)]) ?_ ?_
  · refine gos ?_
    by_cases hqL : q ≥ L
    · refine CmpW.T ?_
      rw [if_pos hqL] at ho
      refine gos ?_
      rw [show (q : Int) - (L : Int) = (o : Int) by omega]
      exact ⟨_, 2, fgts, rfl, rfl⟩
    · refine CmpW.N ?_
      rw [if_neg hqL] at ho
      subst ho
      refine gos ?_
      exact ⟨_, 2, fgts, rfl, rfl⟩
  rintro e h ⟨rfl, rfl⟩
  refine AC.go tab ?_
  refine gos ?_
  refine DrawW.L ?_
  (repeat (first | refine gof ?_ | refine fun (vv : Nat) => ?_))
  refine And.intro (And.intro (by omega) (by first | (rw [rgs_len]; omega) | (simp only [List.length_set]; rw [rgs_len]; omega))) ?_
  (repeat (first | refine gof ?_ | refine fun (vv : Nat) => ?_))
  refine ⟨encG dd[a + o]!, rgs_get (by omega), ?_⟩
  (repeat (first | refine gof ?_ | refine fun (vv : Nat) => ?_))
  refine And.intro (And.intro (by omega) (by first | (rw [rgs_len]; omega) | (simp only [List.length_set]; rw [rgs_len]; omega))) ?_
  (repeat (first | refine gof ?_ | refine fun (vv : Nat) => ?_))
  refine ⟨encG dd[i0 + t]!, rgs_get (by omega), ?_⟩
  (repeat (first | refine gof ?_ | refine fun (vv : Nat) => ?_))
  refine And.intro (And.intro (by omega) (by first | (rw [rgs_len]; omega) | (simp only [List.length_set]; rw [rgs_len]; omega))) ?_
  (repeat (first | refine gof ?_ | refine fun (vv : Nat) => ?_))
  refine ⟨encG dd[i0 + t]!, rgs_get (by omega), ?_⟩
  (repeat (first | refine gof ?_ | refine fun (vv : Nat) => ?_))
  refine And.intro (And.intro (by omega) (by first | (rw [rgs_len]; omega) | (simp only [List.length_set]; rw [rgs_len]; omega))) ?_
  (repeat (first | refine gof ?_ | refine fun (vv : Nat) => ?_))
  refine ⟨encG dd[a + o]!, swp_mid (by omega) (by omega), ?_⟩
  (repeat (first | refine gof ?_ | refine fun (vv : Nat) => ?_))
  refine AC.go tab ?_
  refine gos ?_
  exact ⟨f - 1, _, 2, by omega, fgts, t + 1, by omega, by omega, rfl, by rw [hstep]; exact congrArg (fun es => [some (⟨ver, 155, 2, es⟩ : AObj), some (rndO v Y.toNat)]) (swp_enc (by omega) (by omega))⟩
end Go.Proofs.YtpbjjhpihhnomaaGreatDoor

namespace Go.Proofs.YtpbjjhpihhnomaaGreatDoor
open Go Go.Abs
attribute [local irreducible] DrawW CallW RetW AC Does CmpW
set_option maxRecDepth 100000
theorem affL_le (s : List UInt8) : ∀ f a out ps b, a ≤ s.length → affL s f a out = some (ps, b) → b ≤ s.length
  | 0, a, out, ps, b, _, h => by simp [affL] at h
  | f + 1, a, out, ps, b, ha, h => by
    unfold affL at h
    split at h
    · rename_i hs
      exact affL_le s f _ _ ps b (signF_t ha hs).2.1 h
    · split at h
      · cases h
      · rename_i t ok b' hl
        split at h
        · rename_i hok
          have : ok = false := by simpa using hok
          subst this
          have := litF_f hl
          simp at h
          omega
        · rename_i hok
          have : ok = true := by simpa using hok
          subst this
          have h2 := litF_t ha hl
          split at h
          · exact affL_le s f _ _ ps b h2.2.1 h
          · exact affL_le s f _ _ ps b h2.2.1 h
theorem affF_le {s : List UInt8} {a : Nat} {ps : List Piece} {b : Nat} (ha : a ≤ s.length) (h : affF s a = some (ps, b)) : b ≤ s.length := affL_le s _ a [] ps b ha h
theorem numF_le {s : List UInt8} {a : Nat} {N : Num} {b : Nat} (ha : a ≤ s.length) (h : numF s a = .ok (N, b)) : b ≤ s.length := by
  unfold numF at h
  split at h
  · cases h
  · rename_i N' b' hw
    have k := whoF_keeps ha hw
    split at h
    · rename_i hp
      have hle := pre_le hp (by simp)
      simp only [List.length_cons, List.length_nil] at hle
      have k1 := cntN_le s 48 s.length (b' + 1) (by omega)
      have k2 := cntN_le s 35 s.length (b' + 1 + cntN s 48 s.length (b' + 1)) k1
      split at h
      · cases h
      · simp at h; omega
    · simp at h; omega
structure PatV where
  pre : List Piece
  suf : List Piece
  npre : List Piece
  nsuf : List Piece
  two : Bool
  N : Num
def encL (ps : List Piece) : AV := .fsl (ps.map encP)
def affV (v : PatV) : Aff := ⟨encL v.pre, encL v.suf, if v.two then encL v.npre else .nils, if v.two then encL v.nsuf else .nils⟩
def encV (v : PatV) : AV := .agg (patCells (affV v) v.two v.N)
def affE (s : List UInt8) (a : Nat) : Except Nat (List Piece × Nat) := match affF s a with
  | none => .error s.length
  | some r => .ok r
def endE (s : List UInt8) (a : Nat) (v : PatV) : Except Nat PatV := if a < s.length then .error a else .ok v
def patF (s : List UInt8) : Except Nat PatV :=
  match affE s 0 with
  | .error b => .error b
  | .ok (p, a1) => match numF s a1 with
    | .error b => .error b
    | .ok (N, a2) => match affE s a2 with
      | .error b => .error b
      | .ok (q, a3) =>
        if pre s a3 [59] then match affE s (a3 + 1) with
          | .error b => .error b
          | .ok (p', a5) => match numF s a5 with
            | .error b => .error b
            | .ok (_, a6) => match affE s a6 with
              | .error b => .error b
              | .ok (q', a7) => endE s a7 ⟨p, q, p', q', true, N⟩
        else endE s a3 ⟨p, q, [], [], false, N⟩
theorem affix_E {m : Int} (s : List UInt8) (a : Nat) (ha : a ≤ s.length) (hs : s.length < 1000000) (ver : Nat) :
    Does Tryz.prog (GL m) 236 [.ptr 0 ver 0 0] [some (rdr ver s a)] fun ae O => match affE s a with
      | .error b => ae = .panic (faultV b)
      | .ok r => ae = .ret (encL r.1) ∧ O = [some (rdr ver s r.2)] :=
  (affix_does s a ha hs ver).mono fun ae O h => by
    unfold affE
    cases hf : affF s a with
    | none => rw [hf] at h; exact h.1
    | some r => rw [hf] at h; exact h
theorem affE_le {s : List UInt8} {a : Nat} {ps : List Piece} {b : Nat} (ha : a ≤ s.length) (h : affE s a = .ok (ps, b)) : b ≤ s.length := by
  unfold affE at h
  split at h
  · cases h
  · rename_i r hr; simp at h; subst h; exact affF_le ha hr
set_option maxHeartbeats 4000000 in
theorem pattern_does {m : Int} (s : List UInt8) (ver : Nat) (hs : s.length < 100000) :
    Does Tryz.prog (GL m) 195 [.ptr 0 ver 0 0] [some (rdr ver s 0)] fun ae O => match patF s with
      | .error b => ae = .panic (faultV b)
      | .ok v => ae = .ret (encV v) := by
  refine Does.body tab Tryz.func195 rfl rfl ?_
  refine gos ?_
  intro v1
  refine gos ?_
  intro v2
  refine gos ?_
  intro v3
  refine gos ?_
  refine CallW.of1p 0 (affix_E s 0 (by omega) (by omega) ver) rfl rfl rfl rfl ?_
  intro ae O hA
  cases hE : affE s 0 with
  | error b =>
    rw [hE] at hA
    subst hA
    refine ⟨rfl, fun s' hl => ?_⟩
    refine gos ?_
    refine ⟨by rw [hl]; simp, ?_⟩
    simp only [patF, hE]
  | ok r =>
    obtain ⟨p, a1⟩ := r
    rw [hE] at hA
    obtain ⟨rfl, rfl⟩ := hA
    have h1 := affE_le (by omega) hE
    refine ⟨_, rfl, rfl, rfl, ?_⟩
    refine gos ?_
    refine CallW.of2 0 2 (number_does s a1 ver v2 ⟨encL p, .nils, .nils, .nils⟩ ⟨rfl, rfl, rfl, rfl⟩ false h1 (by omega)) (by decide) rfl rfl rfl (patO_closed ⟨rfl, rfl, rfl, rfl⟩) rfl rfl ?_
    intro ae O hA
    have hE1 := hE
    cases hE : numF s a1 with
    | error b =>
      rw [hE] at hA
      subst hA
      refine ⟨rfl, fun s' hl => ?_⟩
      refine gos ?_
      refine ⟨by rw [hl]; simp, ?_⟩
      simp only [patF, hE1, hE]
    | ok r =>
      obtain ⟨N, a2⟩ := r
      rw [hE] at hA
      obtain ⟨rfl, rfl⟩ := hA
      have h2 := numF_le h1 hE
      refine ⟨_, _, rfl, rfl, patO_closed ⟨rfl, rfl, rfl, rfl⟩, rfl, ?_⟩
      refine gos ?_
      refine CallW.of1p 0 (affix_E s a2 h2 (by omega) ver) rfl rfl rfl rfl ?_
      intro ae O hA
      have hE2 := hE
      cases hE : affE s a2 with
      | error b =>
        rw [hE] at hA
        subst hA
        refine ⟨rfl, fun s' hl => ?_⟩
        refine gos ?_
        refine ⟨by rw [hl]; simp, ?_⟩
        simp only [patF, hE1, hE2, hE]
      | ok r =>
        obtain ⟨q, a3⟩ := r
        rw [hE] at hA
        obtain ⟨rfl, rfl⟩ := hA
        have h3 := affE_le h2 hE
        have hE3 := hE
        refine ⟨_, rfl, rfl, rfl, ?_⟩
        refine gos ?_
        cases h4 : pre s a3 [59] with
        | false =>
          refine CallW.meth 0 (take_no h4 h3 _) rfl rfl rfl rfl rfl rfl ?_
          refine gos ?_
          refine DrawW.L ?_
          refine gos ?_
          have hp : patF s = endE s a3 ⟨p, q, [], [], false, N⟩ := by simp only [patF, hE1, hE2, hE3, h4]; rfl
          rw [hp]
          by_cases hb : a3 < s.length
          · refine CmpW.t (by simp; omega) ?_
            refine gos ?_
            refine CallW.of1 0 (fail_does s a3 ver) rfl rfl rfl rfl ?_
            rintro ae O ⟨rfl, rfl⟩
            refine ⟨_, rfl, rfl, rfl, ?_⟩
            refine gos ?_
            refine ⟨by simp, ?_⟩
            simp only [endE, if_pos hb]
          · refine CmpW.f (by simp; omega) ?_
            refine gos ?_
            refine RetW.plain (by simp) ?_
            simp only [endE, if_neg hb]
            rfl
        | true =>
          have hle := pre_le h4 (by simp)
          simp only [List.length_cons, List.length_nil] at hle
          refine CallW.meth 0 (take_yes 1 rfl h4 hle (by omega) _) rfl rfl rfl rfl rfl rfl ?_
          refine gos ?_
          refine CallW.of1p 0 (affix_E s (a3 + 1) hle (by omega) ver) rfl rfl rfl rfl ?_
          intro ae O hA
          cases hE : affE s (a3 + 1) with
          | error b =>
            rw [hE] at hA
            subst hA
            refine ⟨rfl, fun s' hl => ?_⟩
            refine gos ?_
            refine ⟨by rw [hl]; simp, ?_⟩
            simp only [patF, hE1, hE2, hE3, h4, hE, if_true]
          | ok r =>
            obtain ⟨p', a5⟩ := r
            rw [hE] at hA
            obtain ⟨rfl, rfl⟩ := hA
            have h5 := affE_le hle hE
            have hE5 := hE
            refine ⟨_, rfl, rfl, rfl, ?_⟩
            refine gos ?_
            refine CallW.of2 0 3 (number_does s a5 ver v3 ⟨.nils, .nils, .nils, .nils⟩ ⟨rfl, rfl, rfl, rfl⟩ false h5 (by omega)) (by decide) rfl rfl rfl (patO_closed ⟨rfl, rfl, rfl, rfl⟩) rfl rfl ?_
            intro ae O hA
            cases hE : numF s a5 with
            | error b =>
              rw [hE] at hA
              subst hA
              refine ⟨rfl, fun s' hl => ?_⟩
              refine gos ?_
              refine ⟨by rw [hl]; simp, ?_⟩
              simp only [patF, hE1, hE2, hE3, h4, hE5, hE, if_true]
            | ok r =>
              obtain ⟨N6, a6⟩ := r
              rw [hE] at hA
              obtain ⟨rfl, rfl⟩ := hA
              have h6 := numF_le h5 hE
              have hE6 := hE
              refine ⟨_, _, rfl, rfl, patO_closed ⟨rfl, rfl, rfl, rfl⟩, rfl, ?_⟩
              refine gos ?_
              refine CallW.of1p 0 (affix_E s a6 h6 (by omega) ver) rfl rfl rfl rfl ?_
              intro ae O hA
              cases hE : affE s a6 with
              | error b =>
                rw [hE] at hA
                subst hA
                refine ⟨rfl, fun s' hl => ?_⟩
                refine gos ?_
                refine ⟨by rw [hl]; simp, ?_⟩
                simp only [patF, hE1, hE2, hE3, h4, hE5, hE6, hE, if_true]
              | ok r =>
                obtain ⟨q', a7⟩ := r
                rw [hE] at hA
                obtain ⟨rfl, rfl⟩ := hA
                have h7 := affE_le h6 hE
                refine ⟨_, rfl, rfl, rfl, ?_⟩
                refine gos ?_
                refine DrawW.L ?_
                refine gos ?_
                have hp : patF s = endE s a7 ⟨p, q, p', q', true, N⟩ := by simp only [patF, hE1, hE2, hE3, h4, hE5, hE6, hE, if_true]
                rw [hp]
                by_cases hb : a7 < s.length
                · refine CmpW.t (by simp; omega) ?_
                  refine gos ?_
                  refine CallW.of1 0 (fail_does s a7 ver) rfl rfl rfl rfl ?_
                  rintro ae O ⟨rfl, rfl⟩
                  refine ⟨_, rfl, rfl, rfl, ?_⟩
                  refine gos ?_
                  refine ⟨by simp, ?_⟩
                  simp only [endE, if_pos hb]
                · refine CmpW.f (by simp; omega) ?_
                  refine gos ?_
                  refine RetW.plain (by simp) ?_
                  simp only [endE, if_neg hb]
                  rfl
end Go.Proofs.YtpbjjhpihhnomaaGreatDoor
