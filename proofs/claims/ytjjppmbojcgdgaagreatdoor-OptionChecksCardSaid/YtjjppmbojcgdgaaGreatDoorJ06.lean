/- Sorting ranges: pdqsort. -/
import Derived.Test.YtjjppmbojcgdgaaGreatDoorJ05
import Derived.Sort.LotD5
set_option linter.unusedVariables false
set_option linter.unusedSimpArgs false
set_option maxRecDepth 100000
set_option maxHeartbeats 4000000

namespace Go.Proofs.YtjjppmbojcgdgaaGreatDoor
open Go Go.Abs
attribute [local irreducible] DrawW CallW RetW AC Does CmpW
variable {G : Globs}
def lenT : List UInt8 := (List.range 256).map fun n => UInt8.ofNat (Sort.bitsLen n)
theorem lenT_at (L : List UInt8) (hL : L = lenT) (n : Nat) (h : n < 256) : L[n]? = some (UInt8.ofNat (Sort.bitsLen n)) := by
  subst hL
  simp [lenT, h]
theorem bsl_le (n k : Nat) (h : n < 2 ^ k) : Sort.bitsLen n ≤ k := (Sort.bitsLen_le_iff n k).2 h
theorem bsl_u8 (n : Nat) (h : n < 256) : (UInt8.ofNat (Sort.bitsLen n)).toNat = Sort.bitsLen n := by
  have := bsl_le n 8 h
  simp; omega
theorem bsl_shift (n : Nat) (h : 256 ≤ n) : Sort.bitsLen n = 8 + Sort.bitsLen (n / 256) := by
  have key : ∀ k, Sort.bitsLen n ≤ 8 + k ↔ Sort.bitsLen (n / 256) ≤ k := fun k => by
    rw [Sort.bitsLen_le_iff, Sort.bitsLen_le_iff, Nat.pow_add, Nat.div_lt_iff_lt_mul (by decide)]
    omega
  have h1 := (key (Sort.bitsLen (n / 256))).2 (Nat.le_refl _)
  by_cases h8 : 8 ≤ Sort.bitsLen n
  · have h2 := (key (Sort.bitsLen n - 8)).1 (by omega)
    omega
  · have := (Sort.bitsLen_le_iff n 8).1 (by omega)
    omega
theorem w8 (n : Nat) (h : n < 256) : IntKind.u8.wrap (n : Int) = n := by
  rw [IntKind.wrap_u8]; omega
theorem len64_does (n : Nat) (h : n < 65536) : Does Tryz.prog G 222 [.int .u64 n] [] fun ae _ => ae = .ret (.int .i64 (Sort.bitsLen n)) := by
  refine Does.body tab Tryz.func222 rfl rfl ?_
  refine gos ?_
  refine CmpW.N ?_
  refine gos ?_
  refine CmpW.N ?_
  refine gos ?_
  by_cases h8 : 256 ≤ n
  · refine CmpW.T ?_
    refine gos ?_
    refine And.intro (by decide) (Exists.intro ((n / 256 : Nat) : Int) (And.intro ?_ ?_))
    · show Int.fdiv (n : Int) ((256 : Nat) : Int) = _
      rw [Int.ofNat_fdiv]
    refine gos ?_
    rw [w8 (n / 256) (by omega)]
    refine gos ?_
    refine And.intro ar ⟨_, lenT_at _ (by decide +kernel) (n / 256) (by omega), ?_⟩
    rw [bsl_u8 (n / 256) (by omega)]
    have h1 := bsl_le (n / 256) 8 (by omega)
    have h2 := bsl_shift n h8
    refine gos ?_
    refine RetW.plain (by simp) ?_
    rw [h2]
    simp
    done
  · refine CmpW.N ?_
    refine gos ?_
    rw [w8 n (by omega)]
    refine gos ?_
    refine And.intro ar ⟨_, lenT_at _ (by decide +kernel) n (by omega), ?_⟩
    rw [bsl_u8 n (by omega)]
    have h1 := bsl_le n 8 (by omega)
    refine gos ?_
    refine RetW.plain (by simp) ?_
    simp
    done
theorem lenU_does (n : Nat) (h : n < 65536) : Does Tryz.prog G 152 [.int .u64 n] [] fun ae _ => ae = .ret (.int .i64 (Sort.bitsLen n)) := by
  refine Does.body tab Tryz.func152 rfl rfl ?_
  refine gos ?_
  refine CallW.pure (len64_does n h) rfl rfl ?_
  refine gos ?_
  refine RetW.plain (by simp) ?_
  rfl
theorem shl1 (k : Nat) (h : k ≤ 62) : IntKind.u64.wrap (1 * 2 ^ (min (k : Int).toNat 64)) = ((1 <<< k : Nat) : Int) := by
  have h2 : (2 : Nat) ^ k ≤ 2 ^ 62 := Nat.pow_le_pow_right (by decide) h
  rw [IntKind.wrap_u64, Nat.one_shiftLeft, Int.toNat_natCast, Nat.min_eq_left (by omega), Int.one_mul, show ((2 : Int) ^ k) = ((2 ^ k : Nat) : Int) by push_cast; rfl]
  generalize (2 : Nat) ^ k = p at h2
  omega
theorem npow_does (n : Nat) (h : n < 65536) : Does Tryz.prog G 265 [.int .i64 n] [] fun ae _ => ae = .ret (.int .u64 (1 <<< Sort.bitsLen n : Nat)) := by
  have hb := bsl_le n 16 h
  refine Does.body tab Tryz.func265 rfl rfl ?_
  refine gos ?_
  rw [show IntKind.u64.wrap (n : Int) = n by rw [IntKind.wrap_u64]; omega]
  refine gos ?_
  refine CallW.pure (lenU_does n h) rfl rfl ?_
  refine gos ?_
  refine And.intro ar (Exists.intro _ (And.intro (shl1 (Sort.bitsLen n) (by omega)) ?_))
  refine gos ?_
  refine RetW.plain (by simp) ?_
  rfl
theorem xor64 (a b : Nat) (ha : a < 18446744073709551616) (hb : b < 18446744073709551616) : IntKind.u64.wrap ((BitVec.ofInt IntKind.u64.bits (a : Int) ^^^ BitVec.ofInt IntKind.u64.bits (b : Int)).toNat : Int) = ((a ^^^ b : Nat) : Int) := by
  have hx : a ^^^ b < 2 ^ 64 := Nat.xor_lt_two_pow (by omega) (by omega)
  have h1 : (BitVec.ofInt 64 (a : Int)).toNat = a := by
    rw [BitVec.ofInt_natCast, BitVec.toNat_ofNat]; exact Nat.mod_eq_of_lt (by omega)
  have h2 : (BitVec.ofInt 64 (b : Int)).toNat = b := by
    rw [BitVec.ofInt_natCast, BitVec.toNat_ofNat]; exact Nat.mod_eq_of_lt (by omega)
  show IntKind.u64.wrap (((BitVec.ofInt 64 (a : Int) ^^^ BitVec.ofInt 64 (b : Int)).toNat : Nat) : Int) = _
  rw [BitVec.toNat_xor, h1, h2, IntKind.wrap_u64]
  omega
theorem and64 (a b : Nat) (ha : a < 18446744073709551616) (hb : b < 18446744073709551616) : IntKind.u64.wrap ((BitVec.ofInt IntKind.u64.bits (a : Int) &&& BitVec.ofInt IntKind.u64.bits (b : Int)).toNat : Int) = ((a &&& b : Nat) : Int) := by
  have hx : a &&& b ≤ b := Nat.and_le_right
  have h1 : (BitVec.ofInt 64 (a : Int)).toNat = a := by
    rw [BitVec.ofInt_natCast, BitVec.toNat_ofNat]; exact Nat.mod_eq_of_lt (by omega)
  have h2 : (BitVec.ofInt 64 (b : Int)).toNat = b := by
    rw [BitVec.ofInt_natCast, BitVec.toNat_ofNat]; exact Nat.mod_eq_of_lt (by omega)
  show IntKind.u64.wrap (((BitVec.ofInt 64 (a : Int) &&& BitVec.ofInt 64 (b : Int)).toNat : Nat) : Int) = _
  rw [BitVec.toNat_and, h1, h2, IntKind.wrap_u64]
  omega
theorem shl64 (x k m : Nat) (hk : k < 64) (hm : m = 2 ^ k) : IntKind.u64.wrap ((x : Int) * 2 ^ (min ((k : Nat) : Int).toNat 64)) = ((x * m % 18446744073709551616 : Nat) : Int) := by
  subst hm
  rw [IntKind.wrap_u64, Int.toNat_natCast, Nat.min_eq_left (by omega), show ((2 : Int) ^ k) = ((2 ^ k : Nat) : Int) by push_cast; rfl]
  rw [← Int.natCast_mul]
  omega
def rndO (v X : Nat) : AObj := ⟨v, 365, 1, [[.int .u64 X]]⟩
theorem nextR_does (X v : Nat) (hX : X < 18446744073709551616) : Does Tryz.prog G 266 [.ptr 0 v 0 0] [some (rndO v X)] fun ae O =>
    ae = .ret (.int .u64 (Sort.xorNextN X : Nat)) ∧ O = [some (rndO v (Sort.xorNextN X))] := by
  obtain ⟨A, hA⟩ : ∃ A : Nat, A = X ^^^ (X * 8192 % 18446744073709551616) := ⟨_, rfl⟩
  obtain ⟨B, hB⟩ : ∃ B : Nat, B = A ^^^ (A / 128) := ⟨_, rfl⟩
  obtain ⟨C, hC⟩ : ∃ C : Nat, C = B ^^^ (B * 131072 % 18446744073709551616) := ⟨_, rfl⟩
  have lA : A < 18446744073709551616 := by rw [hA]; exact Nat.xor_lt_two_pow (n := 64) (by omega) (by omega)
  have lB : B < 18446744073709551616 := by rw [hB]; exact Nat.xor_lt_two_pow (n := 64) (by omega) (by omega)
  have hv : Sort.xorNextN X = C := by unfold Sort.xorNextN; simp only []; rw [← hA, ← hB, ← hC]
  rw [hv]
  refine Does.body tab Tryz.func266 rfl rfl ?_
  refine gos ?_
  refine DrawW.L ?_
  (repeat (first | refine gof ?_ | refine fun (vv : Nat) => ?_))
  refine And.intro (by decide) (Exists.intro _ (And.intro (shl64 X 13 8192 (by decide) (by decide)) ?_))
  (repeat (first | refine gof ?_ | refine fun (vv : Nat) => ?_))
  rw [xor64 X _ hX (by omega), ← hA]
  (repeat (first | refine gof ?_ | refine fun (vv : Nat) => ?_))
  refine DrawW.L ?_
  (repeat (first | refine gof ?_ | refine fun (vv : Nat) => ?_))
  refine And.intro (by decide) (Exists.intro ((A / 128 : Nat) : Int) (And.intro (by show Int.fdiv (A : Int) ((128 : Nat) : Int) = _; rw [Int.ofNat_fdiv]) ?_))
  (repeat (first | refine gof ?_ | refine fun (vv : Nat) => ?_))
  rw [xor64 A _ lA (by omega), ← hB]
  (repeat (first | refine gof ?_ | refine fun (vv : Nat) => ?_))
  refine DrawW.L ?_
  (repeat (first | refine gof ?_ | refine fun (vv : Nat) => ?_))
  refine And.intro (by decide) (Exists.intro _ (And.intro (shl64 B 17 131072 (by decide) (by decide)) ?_))
  (repeat (first | refine gof ?_ | refine fun (vv : Nat) => ?_))
  rw [xor64 B _ lB (by omega), ← hC]
  (repeat (first | refine gof ?_ | refine fun (vv : Nat) => ?_))
  refine RetW.plain (by simp) ?_
  exact ⟨rfl, rfl⟩
def bpS (a L M i0 : Nat) : Nat → UInt64 × Array Rg → UInt64 × Array Rg
  | 0, st => st
  | t + 1, st => Sort.breakStep a L M (bpS a L M i0 t st) (i0 + t)
theorem bpS_size (a L M i0 : Nat) (st : UInt64 × Array Rg) : ∀ t, (bpS a L M i0 t st).2.size = st.2.size
  | 0 => rfl
  | t + 1 => by
    show (Sort.breakStep a L M (bpS a L M i0 t st) (i0 + t)).2.size = _
    unfold Sort.breakStep
    simp only
    rw [swp_size, bpS_size a L M i0 st t]
theorem brkR_does (d : Array Rg) (a b ver : Nat) (hab : a ≤ b) (hb : b ≤ d.size) (hs : d.size < 65536) :
    Does Tryz.prog G 215 [.sl 0 ver, .int .i64 a, .int .i64 b, cmpV] [some (rgs ver d)] fun ae O => ae = .ret (.tuple []) ∧ O = [some (rgs ver (Sort.breakPatterns d a b))] := by
  refine Does.bodyA tab Tryz.func215 rfl rfl ?_
  refine AC.step tab ?_
  refine gos ?_
  obtain ⟨L, hL⟩ : ∃ L, L = b - a := ⟨_, rfl⟩
  simp only [show (b : Int) - (a : Int) = (L : Int) by omega]
  refine AC.step tab ?_
  refine gos ?_
  by_cases h8 : 8 ≤ L
  case neg =>
    refine CmpW.N ?_
    refine gos ?_
    refine AC.condA ?_
    refine gos ?_
    refine AC.go tab ?_
    refine gos ?_
    refine RetW.plain (by simp) ?_
    unfold Sort.breakPatterns
    rw [if_neg (by omega)]
    exact ⟨rfl, rfl⟩
  refine CmpW.T ?_
  refine gos ?_
  refine AC.condA ?_
  refine gos ?_
  refine AC.step tab ?_
  refine gos ?_
  rw [show IntKind.u64.wrap (L : Int) = L by rw [IntKind.wrap_u64]; omega]
  refine gos ?_
  intro v
  refine gos ?_
  refine AC.step tab ?_
  refine gos ?_
  refine CallW.pure (npow_does L (by omega)) rfl rfl ?_
  refine gos ?_
  refine AC.step tab ?_
  refine gos ?_
  refine And.intro (by decide) ?_
  refine gos ?_
  have q4 : (L : Int).tdiv 4 = ((L / 4 : Nat) : Int) := rfl
  obtain ⟨M, hM⟩ : ∃ M : Nat, M = 1 <<< Sort.bitsLen L := ⟨_, rfl⟩
  have hM1 : 1 ≤ M := by rw [hM, Nat.one_shiftLeft]; exact Nat.two_pow_pos _
  have hM2 : M ≤ 2 * L := by rw [hM, Nat.one_shiftLeft]; exact Sort.two_pow_bitsLen_le (by omega)
  obtain ⟨i0, hi0⟩ : ∃ i0, i0 = a + L / 4 * 2 - 1 := ⟨_, rfl⟩
  simp only [q4, show (a : Int) + ((L / 4 : Nat) : Int) * 2 - 1 = (i0 : Int) by omega, ← hM]
  have hB : Sort.breakPatterns d a b = (bpS a L M i0 3 (UInt64.ofNat L, d)).2 := by
    unfold Sort.breakPatterns
    rw [← hL, if_pos h8, hM, hi0]
    rfl
  have hu : (UInt64.ofNat L).toNat = L := by simp; omega
  refine AC.blk ?_
  refine AC.loopA (fun f e h => ∃ t, t + f = 4 ∧ t ≤ 3 ∧ e = [.sl 0 ver, .int .i64 a, .any, .any, .any, .any, .any, .any, .int .i64 L, .ptr 1 v 0 0, .int .u64 M, .int .i64 (i0 + t : Nat)] ++ List.replicate 55 .any ∧ h = [some (rgs ver (bpS a L M i0 t (UInt64.ofNat L, d)).2), some (rndO v (bpS a L M i0 t (UInt64.ofNat L, d)).1.toNat)])
    4 ⟨_, fgts, 0, by omega, by omega, rfl, by rw [show (bpS a L M i0 0 (UInt64.ofNat L, d)).1.toNat = L from hu]; rfl⟩ ?_
  rintro f e h ⟨t, hf, ht, rfl, rfl⟩
  refine AC.step tab ?_
  refine gos ?_
  refine And.intro (by decide) ?_
  refine gos ?_
  simp only [q4]
  by_cases h3 : t < 3
  case neg =>
    refine CmpW.N ?_
    refine gos ?_
    refine RetW.plain (by simp) ?_
    rw [hB, show (3 : Nat) = t by omega]
    exact ⟨rfl, rfl⟩
  refine CmpW.T ?_
  refine gos ?_
  obtain ⟨st, hst⟩ : ∃ st, st = bpS a L M i0 t (UInt64.ofNat L, d) := ⟨_, rfl⟩
  have hsz : st.2.size = d.size := by rw [hst]; exact bpS_size a L M i0 _ t
  obtain ⟨X, dd⟩ := st
  rw [← hst]
  simp only at hsz ⊢
  refine AC.seqA ?_
  refine AC.blk ?_
  refine AC.step tab ?_
  refine gos ?_
  refine CallW.meth 1 (nextR_does X.toNat v X.toNat_lt) rfl rfl rfl rfl rfl rfl ?_
  have hY : (Sort.xorNext X).toNat = Sort.xorNextN X.toNat := Sort.xorNext_toNat X
  obtain ⟨Y, hYd⟩ : ∃ Y, Y = Sort.xorNext X := ⟨_, rfl⟩
  rw [← hY, ← hYd]
  refine gos ?_
  rw [show IntKind.u64.wrap ((M : Int) - 1) = ((M - 1 : Nat) : Int) by rw [IntKind.wrap_u64]; omega]
  refine gos ?_
  rw [and64 _ (M - 1) Y.toNat_lt (by omega)]
  obtain ⟨q, hq⟩ : ∃ q : Nat, q = Y.toNat &&& (M - 1) := ⟨_, rfl⟩
  have hqM : q ≤ M - 1 := by rw [hq]; exact Nat.and_le_right
  rw [← hq]
  refine gos ?_
  rw [show IntKind.i64.wrap (q : Int) = q by rw [IntKind.wrap_i64]; omega]
  refine gos ?_
  obtain ⟨o, ho⟩ : ∃ o, o = if q ≥ L then q - L else q := ⟨_, rfl⟩
  have hoL : o < L := by rw [ho]; split <;> omega
  have hstep : bpS a L M i0 (t + 1) (UInt64.ofNat L, d) = (Y, Sort.swp dd (i0 + t) (a + o)) := by
    show Sort.breakStep a L M (bpS a L M i0 t (UInt64.ofNat L, d)) (i0 + t) = _
    rw [← hst]
    unfold Sort.breakStep
    simp only
    rw [← hYd, ← hq, ← ho]
  refine AC.cutF tab (fun e h => e = [.sl 0 ver, .int .i64 a, .any, .any, .any, .any, .any, .any, .int .i64 L, .ptr 1 v 0 0, .int .u64 M, .int .i64 (i0 + t : Nat), .int .i64 o] ++ List.replicate 54 .any ∧ h = [some (rgs ver dd), some (rndO v Y.toNat)]) ?_ ?_
  · refine gos ?_
    by_cases hqL : q ≥ L
    · refine CmpW.T ?_
      rw [if_pos hqL] at ho
      refine gos ?_
      rw [show (q : Int) - (L : Int) = (o : Int) by omega]
      exact ⟨_, 2, fgts, rfl, rfl⟩
    · refine CmpW.N ?_
      rw [if_neg hqL] at ho
      subst ho
      refine gos ?_
      exact ⟨_, 2, fgts, rfl, rfl⟩
  rintro e h ⟨rfl, rfl⟩
  refine AC.go tab ?_
  refine gos ?_
  refine DrawW.L ?_
  (repeat (first | refine gof ?_ | refine fun (vv : Nat) => ?_))
  refine And.intro (And.intro (by omega) (by first | (rw [rgs_len]; omega) | (simp only [List.length_set]; rw [rgs_len]; omega))) ?_
  (repeat (first | refine gof ?_ | refine fun (vv : Nat) => ?_))
  refine ⟨encG dd[a + o]!, rgs_get (by omega), ?_⟩
  (repeat (first | refine gof ?_ | refine fun (vv : Nat) => ?_))
  refine And.intro (And.intro (by omega) (by first | (rw [rgs_len]; omega) | (simp only [List.length_set]; rw [rgs_len]; omega))) ?_
  (repeat (first | refine gof ?_ | refine fun (vv : Nat) => ?_))
  refine ⟨encG dd[i0 + t]!, rgs_get (by omega), ?_⟩
  (repeat (first | refine gof ?_ | refine fun (vv : Nat) => ?_))
  refine And.intro (And.intro (by omega) (by first | (rw [rgs_len]; omega) | (simp only [List.length_set]; rw [rgs_len]; omega))) ?_
  (repeat (first | refine gof ?_ | refine fun (vv : Nat) => ?_))
  refine ⟨encG dd[i0 + t]!, rgs_get (by omega), ?_⟩
  (repeat (first | refine gof ?_ | refine fun (vv : Nat) => ?_))
  refine And.intro (And.intro (by omega) (by first | (rw [rgs_len]; omega) | (simp only [List.length_set]; rw [rgs_len]; omega))) ?_
  (repeat (first | refine gof ?_ | refine fun (vv : Nat) => ?_))
  refine ⟨encG dd[a + o]!, swp_mid (by omega) (by omega), ?_⟩
  (repeat (first | refine gof ?_ | refine fun (vv : Nat) => ?_))
  refine AC.go tab ?_
  refine gos ?_
  exact ⟨f - 1, _, 2, by omega, fgts, t + 1, by omega, by omega, rfl, by rw [hstep]; exact congrArg (fun es => [some (⟨ver, 121, 2, es⟩ : AObj), some (rndO v Y.toNat)]) (swp_enc (by omega) (by omega))⟩
end Go.Proofs.YtjjppmbojcgdgaaGreatDoor

namespace Go.Proofs.YtjjppmbojcgdgaaGreatDoor
open Go Go.Abs
attribute [local irreducible] DrawW CallW RetW AC Does CmpW
variable {G : Globs}
theorem swoR : Sort.SWO ltR where
  irrefl := fun x => by simp [ltR]
  trans := fun x y z h1 h2 => by
    simp only [ltR, decide_eq_true_eq, Fin.lt_def] at *; omega
  ntrans := fun x y z h1 h2 => by
    simp only [ltR, decide_eq_false_iff_not, Fin.lt_def] at *; omega
theorem pdq_step {d : Array Rg} {a b limit : Nat} {wb wp : Bool} (h12 : ¬ b - a ≤ 12) (h0 : ¬ limit = 0) {d1 : Array Rg} {l1 : Nat} {c : Nat × Sort.Hint} {d2 : Array Rg} {pv : Nat} {hint : Sort.Hint} {pi : Array Rg × Bool}
    (e1 : d1 = if !wb then Sort.breakPatterns d a b else d) (e2 : l1 = if !wb then limit - 1 else limit) (e3 : c = Sort.choosePivot ltR d1 a b) (e4 : d2 = if c.2 = .decreasing then Sort.reverseRange d1 a b else d1)
    (e5 : pv = if c.2 = .decreasing then (b - 1) - (c.1 - a) else c.1) (e6 : hint = if c.2 = .decreasing then Sort.Hint.increasing else c.2) (e7 : pi = if wb && wp && hint = .increasing then Sort.partialInsertionSort ltR d2 a b else (d2, false)) :
    Sort.pdq ltR d a b limit wb wp = if pi.2 then pi.1 else if a > 0 && !ltR pi.1[a - 1]! pi.1[pv]! then
        (match Sort.partitionEqual ltR pi.1 a b pv with | (mid, d4) => if a < mid ∧ mid ≤ b then Sort.pdq ltR d4 mid b l1 wb wp else d4)
      else (match Sort.partition ltR pi.1 a b pv with | (mid, ap, d4) => if a ≤ mid ∧ mid < b then
          (if mid - a < b - mid then Sort.pdq ltR (Sort.pdq ltR d4 a mid l1 true true) (mid + 1) b l1 (decide (mid - a ≥ (b - a) / 8)) ap
          else Sort.pdq ltR (Sort.pdq ltR d4 (mid + 1) b l1 true true) a mid l1 (decide (b - mid ≥ (b - a) / 8)) ap) else d4) := by
  subst e1; subst e2; subst e3; subst e4; subst e5; subst e6; subst e7
  conv => lhs; unfold Sort.pdq
  rw [if_neg h12, if_neg h0]
  simp only [dite_eq_ite]
theorem hint_dec (h : Sort.Hint) : (hintN h = 2) ↔ h = .decreasing := by cases h <;> simp [hintN]
theorem hint_inc (h : Sort.Hint) : (hintN h = 1) ↔ h = .increasing := by cases h <;> simp [hintN]
theorem perm_brk (d : Array Rg) {a b : Nat} (hab : a ≤ b) (hb : b ≤ d.size) (wb : Bool) : Sort.PermIn a b d (if !wb then Sort.breakPatterns d a b else d) := Sort.step_break d hab hb _
theorem pdq_core (n : Nat) (rec : ∀ (d : Array Rg) (a b limit ver : Nat), b - a < n → a ≤ b → b ≤ d.size → d.size < 65536 → limit < 100 → Sort.Below ltR a b d →
    Does Tryz.prog G 151 [.sl 0 ver, .int .i64 a, .int .i64 b, .int .i64 limit, cmpV] [some (rgs ver d)] fun ae O => ae = .ret (.tuple []) ∧ O = [some (rgs ver (Sort.pdq ltR d a b limit true true))])
    (d : Array Rg) (a b limit ver : Nat) (hn : b - a ≤ n) (hab : a ≤ b) (hb : b ≤ d.size) (hs : d.size < 65536) (hl : limit < 100) (hB : Sort.Below ltR a b d) :
    Does Tryz.prog G 151 [.sl 0 ver, .int .i64 a, .int .i64 b, .int .i64 limit, cmpV] [some (rgs ver d)] fun ae O => ae = .ret (.tuple []) ∧ O = [some (rgs ver (Sort.pdq ltR d a b limit true true))] := by
  obtain ⟨R, hR⟩ : ∃ R, R = Sort.pdq ltR d a b limit true true := ⟨_, rfl⟩
  rw [← hR]
  refine Does.bodyA tab Tryz.func151 rfl rfl ?_
  refine AC.step tab ?_
  refine gos ?_
  refine AC.step tab ?_
  refine gos ?_
  refine AC.blk ?_
  refine AC.loopA (fun f e h => ∃ (a b lim : Nat) (wb wp : Bool) (d' : Array Rg), b - a < f ∧ b - a ≤ n ∧ a ≤ b ∧ b ≤ d'.size ∧ d'.size = d.size ∧ lim < 100 ∧ Sort.Below ltR a b d' ∧ R = Sort.pdq ltR d' a b lim wb wp ∧
      e = [.sl 0 ver, .int .i64 a, .int .i64 b, .int .i64 lim, cmpV, .any, .any, .any, .any, .any, .bool wb, .bool wp] ++ List.replicate 136 .any ∧ h = [some (rgs ver d')])
    (n + 1) ⟨_, fgts, a, b, limit, true, true, d, by omega, hn, hab, hb, rfl, hl, hB, hR, rfl, rfl⟩ ?_
  clear hR hB hl hb hab hn
  rintro f e h ⟨a, b, lim, wb, wp, d', hf, hn, hab, hb, hsd, hl, hB, hR, rfl, rfl⟩
  refine AC.blk ?_
  refine AC.step tab ?_
  refine gos ?_
  obtain ⟨L, hL⟩ : ∃ L, L = b - a := ⟨_, rfl⟩
  simp only [show (b : Int) - (a : Int) = (L : Int) by omega]
  refine AC.step tab ?_
  refine gos ?_
  by_cases h12 : b - a ≤ 12
  · refine CmpW.T ?_
    refine gos ?_
    refine CallW.meth 0 (insR_does d' a b ver hb (by omega) (by omega)) rfl rfl rfl (rgs_closed _ _) (rgs_closed _ _) rfl ?_
    refine gos ?_
    refine RetW.plain (by simp) ?_
    unfold Sort.pdq at hR
    rw [if_pos h12] at hR
    rw [hR]
    exact ⟨rfl, rfl⟩
  refine CmpW.N ?_
  refine gos ?_
  refine AC.step tab ?_
  refine gos ?_
  by_cases h0 : lim = 0
  · refine CmpW.T ?_
    refine gos ?_
    refine CallW.meth 0 (heaR_does d' a b ver hab hb (by omega)) rfl rfl rfl (rgs_closed _ _) (rgs_closed _ _) rfl ?_
    refine gos ?_
    refine RetW.plain (by simp) ?_
    unfold Sort.pdq at hR
    rw [if_neg h12, if_pos h0] at hR
    rw [hR]
    exact ⟨rfl, rfl⟩
  refine CmpW.N ?_
  refine gos ?_
  obtain ⟨d1, e1⟩ : ∃ d1, d1 = if !wb then Sort.breakPatterns d' a b else d' := ⟨_, rfl⟩
  obtain ⟨l1, e2⟩ : ∃ l1, l1 = if !wb then lim - 1 else lim := ⟨_, rfl⟩
  have s1 : Sort.PermIn a b d' d1 := by rw [e1]; exact perm_brk d' hab hb wb
  have b1 : b ≤ d1.size := by rw [s1.1]; exact hb
  have B1 : Sort.Below ltR a b d1 := hB.perm hb s1
  have hl1 : l1 < 100 := by rw [e2]; split <;> omega
  refine AC.cutF tab (fun e h => e = [.sl 0 ver, .int .i64 a, .int .i64 b, .int .i64 l1, cmpV, .any, .any, .any, .any, .any, .bool wb, .bool wp, .int .i64 L] ++ List.replicate 135 .any ∧ h = [some (rgs ver d1)]) ?_ ?_
  · cases wb with
    | true =>
      have e1' : d1 = d' := e1
      have e2' : l1 = lim := e2
      subst e1'
      subst e2'
      refine gos ?_
      exact ⟨_, 1, fgts, rfl, rfl⟩
    | false =>
      have e1' : d1 = Sort.breakPatterns d' a b := e1
      have e2' : l1 = lim - 1 := e2
      refine gos ?_
      refine CallW.meth 0 (brkR_does d' a b ver hab hb (by omega)) rfl rfl rfl (rgs_closed _ _) (rgs_closed _ _) rfl ?_
      refine gos ?_
      rw [← e1', show (lim : Int) - 1 = (l1 : Int) by omega]
      exact ⟨_, 1, fgts, rfl, rfl⟩
  rintro e h ⟨rfl, rfl⟩
  refine AC.step tab ?_
  refine gos ?_
  refine CallW.meth 0 (choR_does d1 a b ver (by omega) b1 (by rw [s1.1]; omega)) rfl rfl rfl (rgs_closed _ _) (rgs_closed _ _) rfl ?_
  have hc0 := Sort.choosePivot_holds ltR d1 a b (by omega)
  obtain ⟨c, e3⟩ : ∃ c, c = Sort.choosePivot ltR d1 a b := ⟨_, rfl⟩
  rw [← e3] at hc0 ⊢
  refine gos ?_
  obtain ⟨d2, e4⟩ : ∃ d2, d2 = if c.2 = .decreasing then Sort.reverseRange d1 a b else d1 := ⟨_, rfl⟩
  obtain ⟨pv, e5⟩ : ∃ pv, pv = if c.2 = .decreasing then (b - 1) - (c.1 - a) else c.1 := ⟨_, rfl⟩
  obtain ⟨hint, e6⟩ : ∃ hint, hint = if c.2 = .decreasing then Sort.Hint.increasing else c.2 := ⟨_, rfl⟩
  have s2 : Sort.PermIn a b d1 d2 := by rw [e4]; exact Sort.step_reverse Sort.reverseRange_holds d1 hab b1 _
  have b2 : b ≤ d2.size := by rw [s2.1]; exact b1
  have B2 : Sort.Below ltR a b d2 := B1.perm b1 s2
  have hpv : a ≤ pv ∧ pv < b := by rw [e5]; exact Sort.pivot_range hc0.1 hc0.2 _
  refine AC.cutF tab (fun e h => e = [.sl 0 ver, .int .i64 a, .int .i64 b, .int .i64 l1, cmpV, .any, .any, .any, .any, .any, .bool wb, .bool wp, .int .i64 L, .int .i64 pv, .int .i64 (hintN hint)] ++ List.replicate 133 .any ∧ h = [some (rgs ver d2)]) ?_ ?_
  · refine gos ?_
    by_cases hd : c.2 = .decreasing
    · rw [if_pos hd] at e4 e5 e6
      subst e6
      refine CmpW.t (by simpa using (hint_dec _).2 hd) ?_
      refine gos ?_
      refine CallW.meth 0 (revR_does d1 a b ver b1 (by rw [s1.1]; omega) (by omega) hab) rfl rfl rfl (rgs_closed _ _) (rgs_closed _ _) rfl ?_
      rw [← e4]
      refine gos ?_
      rw [show (b : Int) - 1 - ((c.1 : Int) - (a : Int)) = (pv : Int) by omega]
      exact ⟨_, 1, fgts, rfl, rfl⟩
    · rw [if_neg hd] at e4 e5 e6
      subst e4
      subst e5
      subst e6
      refine CmpW.f (by simpa using fun h => hd ((hint_dec _).1 h)) ?_
      refine gos ?_
      exact ⟨_, 1, fgts, rfl, rfl⟩
  rintro e h ⟨rfl, rfl⟩
  obtain ⟨pi, e7⟩ : ∃ pi, pi = if wb && wp && hint = .increasing then Sort.partialInsertionSort ltR d2 a b else (d2, false) := ⟨_, rfl⟩
  have hst := pdq_step h12 h0 e1 e2 e3 e4 e5 e6 e7
  rw [← hR] at hst
  have s3 : Sort.PermIn a b d2 pi.1 := by rw [e7]; exact (Sort.step_partial Sort.partialInsertionSort_holds swoR d2 (a := a) (b := b) (by omega) b2 B2 _).1
  have b3 : b ≤ pi.1.size := by rw [s3.1]; exact b2
  have B3 : Sort.Below ltR a b pi.1 := B2.perm b2 s3
  have hs3 : pi.1.size = d.size := by rw [s3.1, s2.1, s1.1]; exact hsd
  refine AC.cutF tab (fun e h => pi.2 = false ∧ e = [.sl 0 ver, .int .i64 a, .int .i64 b, .int .i64 l1, cmpV, .any, .any, .any, .any, .any, .bool wb, .bool wp, .int .i64 L, .int .i64 pv] ++ List.replicate 134 .any ∧ h = [some (rgs ver pi.1)]) ?_ ?_
  · cases wb with
    | false =>
      have e7' : pi = (d2, false) := e7
      subst e7'
      refine gos ?_
      exact ⟨_, 1, fgts, rfl, rfl, rfl⟩
    | true =>
    cases wp with
    | false =>
      have e7' : pi = (d2, false) := e7
      subst e7'
      refine gos ?_
      exact ⟨_, 1, fgts, rfl, rfl, rfl⟩
    | true =>
    by_cases hi : hint = .increasing
    · rw [if_pos (by simp [hi])] at e7
      refine gos ?_
      refine CmpW.t (by simpa using (hint_inc _).2 hi) ?_
      refine gos ?_
      refine CallW.meth 0 (pisR_does d2 a b ver (by omega) b2 (by rw [s2.1, s1.1]; omega)) rfl rfl rfl (rgs_closed _ _) (rgs_closed _ _) rfl ?_
      rw [← e7]
      cases hp : pi.2 with
      | true =>
        refine gos ?_
        refine RetW.plain (by simp) ?_
        rw [hp, if_pos rfl] at hst
        rw [hst]
        exact ⟨rfl, rfl⟩
      | false =>
        refine gos ?_
        exact ⟨_, 1, fgts, rfl, rfl, rfl⟩
    · rw [if_neg (by simp [hi])] at e7
      refine gos ?_
      refine CmpW.f (by simpa using fun h => hi ((hint_inc _).1 h)) ?_
      refine gos ?_
      subst e7
      exact ⟨_, 1, fgts, rfl, rfl, rfl⟩
  rintro e h ⟨hp, rfl, rfl⟩
  rw [hp] at hst
  simp only [Bool.false_eq_true, if_false] at hst
  have hfin : ∀ (mid : Nat) (d4 : Array Rg), (decide (a > 0) && !ltR pi.1[a - 1]! pi.1[pv]!) = true → Sort.partitionEqual ltR pi.1 a b pv = (mid, d4) → a < mid ∧ mid ≤ b ∧ d4.size = d.size ∧ Sort.Below ltR mid b d4 ∧ R = Sort.pdq ltR d4 mid b l1 wb wp := by
    intro mid d4 hc hx
    have hc2 : 0 < a ∧ ltR pi.1[a - 1]! pi.1[pv]! = false := by simpa using hc
    obtain ⟨g1, g2, g3, g4, _⟩ := Sort.round_eq swoR (Sort.partitionEqual_holds ltR) hc2.1 hpv.1 hpv.2 b3 B3 hc2.2 hx
    refine ⟨g1, g2, by rw [g3]; exact hs3, g4, ?_⟩
    rw [hst, if_pos hc, hx]
    simp only
    rw [if_pos ⟨g1, g2⟩]
  refine AC.cutF tab (fun e h => (decide (a > 0) && !ltR pi.1[a - 1]! pi.1[pv]!) = false ∧ e = [.sl 0 ver, .int .i64 a, .int .i64 b, .int .i64 l1, cmpV, .any, .any, .any, .any, .any, .bool wb, .bool wp, .int .i64 L, .int .i64 pv] ++ List.replicate 134 .any ∧ h = [some (rgs ver pi.1)]) ?_ ?_
  · refine gos ?_
    refine DrawW.L ?_
    (repeat (first | refine gof ?_ | refine fun (vv : Nat) => ?_))
    by_cases ha0 : a > 0
    case neg =>
      refine CmpW.N ?_
      (repeat (first | refine gof ?_ | refine fun (vv : Nat) => ?_))
      exact ⟨_, 1, fgts, by simp [ha0], rfl, rfl⟩
    refine CmpW.T ?_
    (repeat (first | refine gof ?_ | refine fun (vv : Nat) => ?_))
    simp only [show (a : Int) - 1 = ((a - 1 : Nat) : Int) by omega]
    refine And.intro (And.intro (by omega) (by first | (rw [rgs_len]; omega) | (simp only [List.length_set]; rw [rgs_len]; omega))) ?_
    (repeat (first | refine gof ?_ | refine fun (vv : Nat) => ?_))
    refine ⟨encG pi.1[a - 1]!, rgs_get (by omega), ?_⟩
    (repeat (first | refine gof ?_ | refine fun (vv : Nat) => ?_))
    refine And.intro (And.intro (by omega) (by first | (rw [rgs_len]; omega) | (simp only [List.length_set]; rw [rgs_len]; omega))) ?_
    (repeat (first | refine gof ?_ | refine fun (vv : Nat) => ?_))
    refine ⟨encG pi.1[pv]!, rgs_get (by omega), ?_⟩
    (repeat (first | refine gof ?_ | refine fun (vv : Nat) => ?_))
    refine CallW.pure (cmpR_does pi.1[a - 1]! pi.1[pv]!) rfl rfl ?_
    (repeat (first | refine gof ?_ | refine fun (vv : Nat) => ?_))
    cases hc : ltR pi.1[a - 1]! pi.1[pv]! with
    | true =>
      refine CmpW.t (ltR_t hc) ?_
      refine gos ?_
      exact ⟨_, 1, fgts, by simp [hc], rfl, rfl⟩
    | false =>
      refine CmpW.f (ltR_f hc) ?_
      refine gos ?_
      refine CallW.meth 0 (pqlR_does pi.1 a b pv ver (by omega) b3 (by omega) (by omega)) rfl rfl rfl (rgs_closed _ _) (rgs_closed _ _) rfl ?_
      obtain ⟨X, hx⟩ : ∃ X, X = Sort.partitionEqual ltR pi.1 a b pv := ⟨_, rfl⟩
      rw [← hx]
      obtain ⟨mid, d4⟩ := X
      obtain ⟨g1, g2, g3, g4, g5⟩ := hfin mid d4 (by simp [ha0, hc]) hx.symm
      refine gos ?_
      exact ⟨f - 1, _, 1, by omega, fgts, mid, b, l1, wb, wp, d4, by omega, by omega, g2, by omega, g3, hl1, g4, g5, rfl, rfl⟩
  rintro e h ⟨hc, rfl, rfl⟩
  rw [hc] at hst
  simp only [Bool.false_eq_true, if_false] at hst
  refine AC.step tab ?_
  refine gos ?_
  refine CallW.meth 0 (parR_does pi.1 a b pv ver (by omega) b3 (by omega) (by omega)) rfl rfl rfl (rgs_closed _ _) (rgs_closed _ _) rfl ?_
  obtain ⟨X, hx⟩ : ∃ X, X = Sort.partition ltR pi.1 a b pv := ⟨_, rfl⟩
  rw [← hx]
  obtain ⟨mid, ap, d4⟩ := X
  obtain ⟨g1, g2, g3, g4, g5, g6, g7⟩ := Sort.round_part swoR (Sort.partition_holds ltR) hpv.1 hpv.2 b3 B3 hx.symm
  rw [← hx] at hst
  simp only at hst
  rw [if_pos ⟨g1, g2⟩] at hst
  refine gos ?_
  refine AC.step tab ?_
  refine gos ?_
  refine AC.step tab ?_
  refine gos ?_
  refine AC.step tab ?_
  refine gos ?_
  refine And.intro (by decide) ?_
  refine gos ?_
  have q8 : (L : Int).tdiv 8 = ((L / 8 : Nat) : Int) := rfl
  simp only [q8, show (mid : Int) - (a : Int) = ((mid - a : Nat) : Int) by omega, show (b : Int) - (mid : Int) = ((b - mid : Nat) : Int) by omega]
  have w1 : decide (((mid - a : Nat) : Int) ≥ ((L / 8 : Nat) : Int)) = decide (mid - a ≥ (b - a) / 8) := by rw [hL]; exact decide_eq_decide.2 (by omega)
  have w2 : decide (((b - mid : Nat) : Int) ≥ ((L / 8 : Nat) : Int)) = decide (b - mid ≥ (b - a) / 8) := by rw [hL]; exact decide_eq_decide.2 (by omega)
  refine AC.step tab ?_
  refine gos ?_
  by_cases hlt : mid - a < b - mid
  · rw [if_pos hlt] at hst
    refine CmpW.T ?_
    refine gos ?_
    refine AC.go tab ?_
    refine gos ?_
    refine CmpW.s ?_
    rw [w1]
    refine gos ?_
    refine CallW.meth 0 (rec d4 a mid l1 ver (by omega) g1 (by omega) (by omega) hl1 g4) rfl rfl rfl (rgs_closed _ _) (rgs_closed _ _) rfl ?_
    refine gos ?_
    rw [show (mid : Int) + 1 = ((mid + 1 : Nat) : Int) by omega]
    have p := Sort.pdq_sorts ltR swoR d4 a mid l1 true true g1 (by omega) g4
    exact ⟨f - 1, _, 1, by omega, fgts, mid + 1, b, l1, _, ap, _, by omega, by omega, by omega, by rw [p.1.1]; omega, by rw [p.1.1, g3]; exact hs3, hl1, (g6 _ p.1 p.2).1, hst, rfl, rfl⟩
  · rw [if_neg hlt] at hst
    refine CmpW.N ?_
    refine gos ?_
    refine AC.go tab ?_
    refine gos ?_
    refine CmpW.s ?_
    rw [w2]
    refine gos ?_
    rw [show (mid : Int) + 1 = ((mid + 1 : Nat) : Int) by omega]
    refine CallW.meth 0 (rec d4 (mid + 1) b l1 ver (by omega) (by omega) (by omega) (by omega) hl1 g5) rfl rfl rfl (rgs_closed _ _) (rgs_closed _ _) rfl ?_
    refine gos ?_
    have p := Sort.pdq_sorts ltR swoR d4 (mid + 1) b l1 true true (by omega) (by omega) g5
    exact ⟨f - 1, _, 1, by omega, fgts, a, mid, l1, _, ap, _, by omega, by omega, by omega, by rw [p.1.1]; omega, by rw [p.1.1, g3]; exact hs3, hl1, (g7 _ p.1 p.2).1, hst, rfl, rfl⟩
theorem pdqR_does (d : Array Rg) (a b limit ver : Nat) (hab : a ≤ b) (hb : b ≤ d.size) (hs : d.size < 65536) (hl : limit < 100) (hB : Sort.Below ltR a b d) :
    Does Tryz.prog G 151 [.sl 0 ver, .int .i64 a, .int .i64 b, .int .i64 limit, cmpV] [some (rgs ver d)] fun ae O => ae = .ret (.tuple []) ∧ O = [some (rgs ver (Sort.pdq ltR d a b limit true true))] := by
  have key : ∀ (n : Nat) (d : Array Rg) (a b limit ver : Nat), b - a < n → a ≤ b → b ≤ d.size → d.size < 65536 → limit < 100 → Sort.Below ltR a b d →
      Does Tryz.prog G 151 [.sl 0 ver, .int .i64 a, .int .i64 b, .int .i64 limit, cmpV] [some (rgs ver d)] fun ae O => ae = .ret (.tuple []) ∧ O = [some (rgs ver (Sort.pdq ltR d a b limit true true))] := by
    intro n
    induction n with
    | zero => intro d a b limit ver h; omega
    | succ n ih =>
      intro d a b limit ver h h1 h2 h3 h4 h5
      exact pdq_core n ih d a b limit ver (by omega) h1 h2 h3 h4 h5
  exact key (b - a + 1) d a b limit ver (by omega) hab hb hs hl hB
def sortRg (l : List Rg) : List Rg := (Sort.pdq ltR l.toArray 0 l.length (Sort.bitsLen l.length) true true).toList
theorem sortRg_facts (l : List Rg) : (sortRg l).Perm l ∧ Sort.SortedIn ltR 0 l.length (sortRg l).toArray := by
  have p := Sort.pdq_sorts ltR swoR l.toArray 0 l.length (Sort.bitsLen l.length) true true (Nat.zero_le _) (by simp) (Or.inl rfl)
  refine ⟨?_, ?_⟩
  · have h := p.1.2.2
    have hs := p.1.1
    have e1 : ∀ x : Array Rg, x.size = l.length → x.extract 0 l.length = x := fun x hx => by rw [← hx]; simp
    rw [e1 _ (by rw [hs]; simp), e1 _ (by simp)] at h
    exact h
  · have h := p.2
    unfold sortRg
    simpa using h
theorem sortRg_length (l : List Rg) : (sortRg l).length = l.length := (sortRg_facts l).1.length_eq
theorem lenU_ok (n : Nat) (h : n < 65536) : Sort.bitsLen n ≤ 16 := bsl_le n 16 h
theorem sortR_does (l : List Rg) (ver : Nat) (hs : l.length < 65536) :
    Does Tryz.prog G 51 [.sl 0 ver, cmpV] [some (rgs ver l.toArray)] fun ae O => ae = .ret (.tuple []) ∧ O = [some (rgs ver (sortRg l).toArray)] := by
  refine Does.body tab Tryz.func51 rfl rfl ?_
  refine gos ?_
  have e1 : (rgs ver l.toArray).es.length = l.length := by simp
  rw [e1]
  rw [show IntKind.u64.wrap (l.length : Int) = l.length by rw [IntKind.wrap_u64]; omega]
  refine gos ?_
  refine CallW.pure (lenU_does l.length hs) rfl rfl ?_
  refine gos ?_
  have h16 := lenU_ok l.length hs
  refine CallW.meth 0 (pdqR_does l.toArray 0 l.length (Sort.bitsLen l.length) ver (by omega) (by simp) (by simpa using hs) (by omega) (Or.inl rfl)) rfl rfl rfl (rgs_closed _ _) (rgs_closed _ _) rfl ?_
  refine gos ?_
  refine RetW.plain (by simp) ?_
  exact ⟨rfl, by unfold sortRg; simp⟩
end Go.Proofs.YtjjppmbojcgdgaaGreatDoor
