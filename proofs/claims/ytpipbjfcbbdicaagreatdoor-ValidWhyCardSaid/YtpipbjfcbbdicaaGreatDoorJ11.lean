/- The reader of rules: numbers, ranges, words. -/
import Derived.Test.YtpipbjfcbbdicaaGreatDoorJ10
import Derived.Test.YtpipbjfcbbdicaaGreatDoorJ06
import Derived.Lib.AtoiErrMem
set_option linter.unusedVariables false
set_option linter.unusedSimpArgs false
set_option maxRecDepth 100000
set_option maxHeartbeats 4000000

namespace Go.Proofs.YtpipbjfcbbdicaaGreatDoor
open Go Go.Abs
attribute [local irreducible] DrawW CallW RetW AC Does CmpW
variable {G : Globs}

def cro (ver : Nat) (s : List UInt8) (a : Nat) (bad : Int) : AObj := ⟨ver, 163, 3, [[.str s, .int .i64 a, .int .i64 bad]]⟩
def bd (a : Nat) (bad : Int) : Int := if bad < 0 then a else bad
theorem cfail_does (s : List UInt8) (a : Nat) (bad : Int) (ver : Nat) : Does Tryz.prog G 126 [.ptr 0 ver 0 0] [some (cro ver s a bad)] fun ae O => ae = .ret (.tuple []) ∧ O = [some (cro ver s a (bd a bad))] := by
  refine Does.body tab Tryz.func126 rfl rfl ?_
  refine gos ?_
  by_cases h : bad < 0
  · refine CmpW.T ?_
    refine gos ?_
    refine RetW.plain (by simp) ?_
    simp only [bd, if_pos h]
    (first | exact ⟨rfl, rfl⟩ | exact ⟨trivial, rfl⟩ | exact ⟨rfl, trivial⟩ | rfl | trivial | done)
  · refine CmpW.N ?_
    refine gos ?_
    refine RetW.plain (by simp) ?_
    simp only [bd, if_neg h]
    (first | exact ⟨rfl, rfl⟩ | exact ⟨trivial, rfl⟩ | exact ⟨rfl, trivial⟩ | rfl | trivial | done)

theorem cpeek_does (s : List UInt8) (a : Nat) (bad : Int) (ha : a ≤ s.length) (hs : s.length < 100000) (ver : Nat) :
    Does Tryz.prog G 128 [.ptr 0 ver 0 0] [some (cro ver s a bad)] fun ae O => ae = .ret (.int .u8 (pk s a)) ∧ O = [some (cro ver s (bl s a) bad)] := by
  refine Does.bodyA tab Tryz.func128 rfl rfl ?_
  refine AC.step tab ?_
  refine gos ?_
  refine AC.cutF tab (fun e h => e = [.ptr 0 ver 0 0] ++ List.replicate 50 .any ∧ h = [some (cro ver s (bl s a) bad)]) ?_ ?_
  · refine AC.loopC tab (fun f e h => ∃ k, s.length < f + (a + k) ∧ a + k ≤ s.length ∧ k ≤ tw s (fun c => c == 32) a ∧ e = [.ptr 0 ver 0 0] ++ List.replicate 50 .any ∧ h = [some (cro ver s (a + k) bad)]) (s.length + 1) ⟨_, fgts, 0, by omega, by omega, by omega, rfl, rfl⟩ ?_
    rintro f e h ⟨k, hf, hk, hkt, rfl, rfl⟩
    refine gos ?_
    refine DrawW.L ?_
    refine gos ?_
    by_cases hlt : a + k < s.length
    · obtain ⟨c, hc⟩ : ∃ c, s[a + k]? = some c := ⟨_, List.getElem?_eq_getElem hlt⟩
      refine CmpW.t (by simp; omega) ?_
      refine gos ?_
      refine And.intro (by omega) ⟨c, hc, ?_⟩
      refine gos ?_
      by_cases h32 : c = 32
      · subst h32
        refine CmpW.t (by simp) ?_
        refine gos ?_
        refine ⟨f - 1, _, 1, by omega, fgts, k + 1, by omega, by omega, tw_go hkt hc rfl, rfl, rfl⟩
      · refine CmpW.f (by simp; exact fun h => h32 (u8_of h rfl)) ?_
        refine gos ?_
        have : bl s a = a + k := by unfold bl; rw [← tw_stop hkt fun d hd => by rw [hc] at hd; cases hd; simpa using h32]
        rw [this]
        exact ⟨_, 1, fgts, rfl, rfl⟩
    · refine CmpW.f (by simp; omega) ?_
      refine gos ?_
      have : bl s a = a + k := by unfold bl; rw [← tw_stop hkt fun d hd => by rw [List.getElem?_eq_none (by omega)] at hd; cases hd]
      rw [this]
      exact ⟨_, 1, fgts, rfl, rfl⟩
  rintro e h ⟨rfl, rfl⟩
  refine AC.go tab ?_
  refine gos ?_
  refine DrawW.L ?_
  refine gos ?_
  have hb := bl_le ha
  by_cases hlt : bl s a < s.length
  · obtain ⟨c, hc⟩ : ∃ c, s[bl s a]? = some c := ⟨_, List.getElem?_eq_getElem hlt⟩
    refine CmpW.f (by simp; omega) ?_
    refine gos ?_
    refine DrawW.L ?_
    refine gos ?_
    refine And.intro (by omega) ⟨c, hc, ?_⟩
    refine gos ?_
    refine RetW.plain (by simp) ?_
    simp only [pk, hc]
    (first | exact ⟨rfl, rfl⟩ | exact ⟨trivial, rfl⟩ | exact ⟨rfl, trivial⟩ | rfl | trivial | done)
  · refine CmpW.t (by simp; omega) ?_
    refine gos ?_
    refine RetW.plain (by simp) ?_
    simp only [pk, List.getElem?_eq_none (show s.length ≤ bl s a by omega)]
    (first | exact ⟨rfl, rfl⟩ | exact ⟨trivial, rfl⟩ | exact ⟨rfl, trivial⟩ | rfl | trivial | done)

/-- Is a byte next, behind blanks? -/
def nx (s : List UInt8) (a : Nat) (b : UInt8) : Bool := decide (s[bl s a]? = some b)
def nxE (s : List UInt8) (a : Nat) (b : UInt8) : Nat := if nx s a b then bl s a + 1 else bl s a
theorem nxE_le {s : List UInt8} {a : Nat} (b : UInt8) (ha : a ≤ s.length) : a ≤ nxE s a b ∧ nxE s a b ≤ s.length := by
  have hb := bl_le ha
  unfold nxE nx
  split
  · rename_i h
    have := (List.getElem?_eq_some_iff.1 (of_decide_eq_true h)).1
    omega
  · omega
theorem pk_nx {s : List UInt8} {a : Nat} {b : UInt8} (hb : b ≠ 0) : (pk s a = b.toNat) ↔ nx s a b = true := by
  unfold pk nx
  cases h : s[bl s a]? with
  | none =>
    simp only [decide_eq_true_eq, reduceCtorEq, iff_false]
    intro e
    exact hb (UInt8.toNat_inj.1 (by simpa using e.symm))
  | some c =>
    simp only [decide_eq_true_eq, Option.some.injEq]
    exact UInt8.toNat_inj
theorem ctake_does (s : List UInt8) (a : Nat) (bad : Int) (b : UInt8) (hb0 : b ≠ 0) (ha : a ≤ s.length) (hs : s.length < 100000) (ver : Nat) :
    Does Tryz.prog G 125 [.ptr 0 ver 0 0, .int .u8 b.toNat] [some (cro ver s a bad)] fun ae O => ae = .ret (.bool (nx s a b)) ∧ O = [some (cro ver s (nxE s a b) bad)] := by
  refine Does.body tab Tryz.func125 rfl rfl ?_
  refine gos ?_
  have hb := bl_le ha
  have hp := pk_nx (s := s) (a := a) hb0
  refine DrawW.P (.take 0 (.take 2 (.take 1 (.take 3 (.take 4 (.take 5 (.take 6 (.take 7 (.take 8 (.take 9 (.take 10 (.take 11 (.take 12 (.take 13 (.take 14 (.take 15 .done)))))))))))))))) ?_
  refine gos ?_
  refine CallW.meth 0 (cpeek_does s a bad ha hs ver) rfl rfl rfl rfl rfl rfl ?_
  refine gos ?_
  cases hn : nx s a b with
  | false =>
    have h1 : ¬ pk s a = b.toNat := fun h => by rw [hp.1 h] at hn; cases hn
    refine CmpW.t (by simp; omega) ?_
    refine gos ?_
    refine RetW.plain (by simp) ?_
    simp only [nxE, hn, Bool.false_eq_true, if_false]
    (first | exact ⟨rfl, rfl⟩ | exact ⟨trivial, rfl⟩ | exact ⟨rfl, trivial⟩ | rfl | trivial | done)
  | true =>
    have h1 : pk s a = b.toNat := hp.2 hn
    have hlt : bl s a < s.length := (List.getElem?_eq_some_iff.1 (of_decide_eq_true hn)).1
    refine CmpW.f (by simp; omega) ?_
    refine gos ?_
    refine CmpW.f (by simp; omega) ?_
    refine gos ?_
    refine RetW.plain (by simp) ?_
    simp only [nxE, hn, if_true]
    (first | exact ⟨rfl, rfl⟩ | exact ⟨trivial, rfl⟩ | exact ⟨rfl, trivial⟩ | rfl | trivial | done)
end Go.Proofs.YtpipbjfcbbdicaaGreatDoor

namespace Go.Proofs.YtpipbjfcbbdicaaGreatDoor
open Go Go.Abs
attribute [local irreducible] DrawW CallW RetW AC Does CmpW
variable {G : Globs}

def isHex (c : UInt8) : Bool := (48 ≤ c && c ≤ 57) || (97 ≤ c && c ≤ 102)
def hexD (c : UInt8) : Nat := if c.toNat ≤ 57 then c.toNat - 48 else c.toNat - 87
def hexV (l : List UInt8) : Nat := l.foldl (fun n c => n * 16 + hexD c) 0
theorem isHex_cases {c : UInt8} (h : isHex c = true) : (48 ≤ c.toNat ∧ c.toNat ≤ 57) ∨ (97 ≤ c.toNat ∧ c.toNat ≤ 102) := by
  simp only [isHex, Bool.or_eq_true, Bool.and_eq_true, decide_eq_true_eq] at h
  rcases h with ⟨h1, h2⟩ | ⟨h1, h2⟩
  · exact .inl ⟨h1, h2⟩
  · exact .inr ⟨h1, h2⟩
theorem hexD_lt {c : UInt8} (h : isHex c = true) : hexD c < 16 := by
  unfold hexD
  rcases isHex_cases h with h | h <;> split <;> omega
theorem hexV_snoc (l : List UInt8) (c : UInt8) : hexV (l ++ [c]) = hexV l * 16 + hexD c := by simp [hexV]
theorem hexV_lt : ∀ (n : Nat) (l : List UInt8), l.length = n → (∀ c ∈ l, isHex c = true) → hexV l < 16 ^ n
  | 0, l, hl, _ => by rw [List.eq_nil_of_length_eq_zero hl]; simp [hexV]
  | n + 1, l, hl, h => by
    obtain ⟨l', c, rfl⟩ : ∃ l' c, l = l' ++ [c] := by
      have hne : l ≠ [] := by intro e; rw [e] at hl; simp at hl
      exact ⟨l.dropLast, l.getLast hne, (List.dropLast_concat_getLast hne).symm⟩
    rw [hexV_snoc]
    have h1 := hexV_lt n l' (by simpa using hl) (fun d hd => h d (by simp [hd]))
    have h2 := hexD_lt (h c (by simp))
    rw [Nat.pow_succ]; omega

theorem lower_does (c : UInt8) (h1 : 97 ≤ c.toNat) (h2 : c.toNat ≤ 102) : Does Tryz.prog G 197 [.int .u8 c.toNat] [] fun ae _ => ae = .ret (.int .u8 c.toNat) := by
  have h : c.toNat = 97 ∨ c.toNat = 98 ∨ c.toNat = 99 ∨ c.toNat = 100 ∨ c.toNat = 101 ∨ c.toNat = 102 := by omega
  rcases h with h | h | h | h | h | h
  all_goals
    rw [h]
    refine Does.body tab Tryz.func197 rfl rfl ?_
    refine gos ?_
    refine RetW.plain (by simp) ?_
    rfl

theorem iParseUint_does (l : List UInt8) (h0 : l ≠ []) (hl : l.length ≤ 6) (hx : ∀ c ∈ l, isHex c = true) : Does Tryz.prog G 190 [.str l, .int .i64 16, .int .i64 32] [] fun ae _ => ae = .ret (.tuple [.int .u64 (hexV l), .nili]) := by
  refine Does.bodyA tab Tryz.func190 rfl rfl ?_
  refine AC.step tab ?_
  refine gos ?_
  refine AC.step tab ?_
  refine gos ?_
  refine CmpW.f (by simpa using h0) ?_
  refine gos ?_
  refine AC.step tab ?_
  refine gos ?_
  refine AC.step tab ?_
  refine gos ?_
  refine AC.step tab ?_
  refine gos ?_
  refine AC.step tab ?_
  refine gos ?_
  refine AC.step tab ?_
  refine gos ?_
  refine AC.step tab ?_
  refine gos ?_
  refine AC.step tab ?_
  refine gos ?_
  refine And.intro ?_ ?_
  · decide
  refine gos ?_
  refine AC.step tab ?_
  refine gos ?_
  refine AC.step tab ?_
  refine gos ?_
  refine AC.cutF tab (fun e h => e = [.any, .any, .any, .any, .any, .any, .any, .any, .any, .str l, .any, .any, .bool false, .int .u64 (hexV l)] ++ List.replicate 158 .any ∧ h = []) ?_ ?_
  · refine gos ?_
    have hM : IntKind.u64.wrap (IntKind.u64.wrap (1 * 2 ^ min (IntKind.u64.wrap 32).toNat IntKind.u64.bits) - 1) = 4294967295 := by decide
    have hbl : (byteEs l).length = l.length := by simp [byteEs]
    rw [hM, hbl]
    refine AC.loopC tab (fun f e h => ∃ k : Nat, f + k = l.length + 1 ∧ k ≤ l.length ∧
      e = [.any, .int .i64 16, .any, .any, .any, .any, .any, .any, .bool false, .str l, .int .u64 1152921504606846976, .int .u64 4294967295, .bool false, .int .u64 (hexV (l.take k))] ++ List.replicate 85 .any ++ [.fsl (byteEs l), .int .i64 l.length, .int .i64 k] ++ List.replicate 70 .any ∧ h = []) (l.length + 1) ⟨_, fgts, 0, by omega, by omega, rfl, rfl⟩ ?_
    rintro f e h ⟨k, hf, hk, rfl, rfl⟩
    have hn : hexV (l.take k) < 16777216 := by
      have h1 := hexV_lt k (l.take k) (by simp; omega) (fun c hc => hx c (List.mem_of_mem_take hc))
      have h2 : 16 ^ k ≤ 16 ^ 6 := Nat.pow_le_pow_right (by omega) (by omega)
      omega
    refine gos ?_
    by_cases hlt : k < l.length
    · obtain ⟨c, hc⟩ : ∃ c, l[k]? = some c := ⟨_, List.getElem?_eq_getElem hlt⟩
      have hch := hx c (List.mem_of_getElem? hc)
      have hd16 := hexD_lt hch
      have htk : l.take (k + 1) = l.take k ++ [c] := by
        rw [List.take_add_one, hc]; rfl
      refine CmpW.T ?_
      refine gos ?_
      refine And.intro (fun y hy => by obtain ⟨z, _, rfl⟩ := List.mem_map.1 hy; rfl) (And.intro (by omega) ⟨[.int .u8 c.toNat], by rw [Int.toNat_natCast]; simp [byteEs, hc], ?_⟩)
      refine gos ?_
      have hcc := isHex_cases hch
      refine CmpW.f (by simp; omega) ?_
      refine gos ?_
      obtain ⟨n, hnE⟩ : ∃ n, n = hexV (l.take k) := ⟨_, rfl⟩
      rw [← hnE] at hn ⊢
      have hnn : hexV (l.take (k + 1)) = n * 16 + hexD c := by rw [htk, hexV_snoc, hnE]
      have e1 : IntKind.u64.wrap ((n : Int) * IntKind.u64.wrap 16) = ((n * 16 : Nat) : Int) := by
        rw [wrap_u64 (n := 16) (by omega) (by omega), wrap_u64 (by omega) (by omega)]; omega
      have e2 : IntKind.u64.wrap (((n * 16 : Nat) : Int) + IntKind.u64.wrap (hexD c : Int)) = ((n * 16 + hexD c : Nat) : Int) := by
        rw [wrap_u64 (n := (hexD c : Int)) (by omega) (by omega), wrap_u64 (by omega) (by omega)]; omega
      have e16 : IntKind.u8.wrap 16 = 16 := by decide
      rcases hcc with hcc | hcc
      · have e0 : IntKind.u8.wrap ((c.toNat : Int) - 48) = (hexD c : Int) := by
          rw [wrap_u8 (by omega) (by omega)]; unfold hexD; rw [if_pos (by omega)]; omega
        refine CmpW.T ?_
        refine gos ?_
        refine CmpW.T ?_
        refine gos ?_
        rw [e0, e16]
        refine CmpW.N ?_
        refine gos ?_
        refine CmpW.N ?_
        refine gos ?_
        rw [e1, e2]
        refine CmpW.N ?_
        refine gos ?_
        refine CmpW.N ?_
        refine gos ?_
        rw [← hnn]
        exact ⟨f - 1, _, 0, by omega, fgts, k + 1, by omega, by omega, rfl, rfl⟩
      · have e0 : IntKind.u8.wrap (IntKind.u8.wrap ((c.toNat : Int) - 97) + 10) = (hexD c : Int) := by
          rw [wrap_u8 (n := (c.toNat : Int) - 97) (by omega) (by omega), wrap_u8 (by omega) (by omega)]; unfold hexD; rw [if_neg (by omega)]; omega
        have hlw := lower_does (G := G) c hcc.1 hcc.2
        refine CmpW.T ?_
        refine gos ?_
        refine CmpW.N ?_
        refine gos ?_
        refine CallW.pure hlw rfl rfl ?_
        refine gos ?_
        refine CmpW.T ?_
        refine gos ?_
        refine CallW.pure hlw rfl rfl ?_
        refine gos ?_
        refine CmpW.T ?_
        refine gos ?_
        refine CallW.pure hlw rfl rfl ?_
        refine gos ?_
        rw [e0, e16]
        refine CmpW.N ?_
        refine gos ?_
        refine CmpW.N ?_
        refine gos ?_
        rw [e1, e2]
        refine CmpW.N ?_
        refine gos ?_
        refine CmpW.N ?_
        refine gos ?_
        rw [← hnn]
        exact ⟨f - 1, _, 0, by omega, fgts, k + 1, by omega, by omega, rfl, rfl⟩
    · refine CmpW.N ?_
      refine gos ?_
      have : k = l.length := by omega
      subst this
      rw [List.take_length]
      exact ⟨_, 0, fgts, rfl, rfl⟩
  rintro e h ⟨rfl, rfl⟩
  refine AC.go tab ?_
  refine gos ?_
  refine RetW.plain (by simp) ?_
  rfl

end Go.Proofs.YtpipbjfcbbdicaaGreatDoor

namespace Go.Proofs.YtpipbjfcbbdicaaGreatDoor
open Go Go.Abs
attribute [local irreducible] DrawW CallW RetW AC Does CmpW
variable {G : Globs}

theorem iParseInt_does (l : List UInt8) (h0 : l ≠ []) (hl : l.length ≤ 6) (hx : ∀ c ∈ l, isHex c = true) : Does Tryz.prog G 181 [.str l, .int .i64 16, .int .i64 32] [] fun ae _ => ae = .ret (.tuple [.int .i64 (hexV l), .nili]) := by
  obtain ⟨c, hc⟩ : ∃ c, l[0]? = some c := ⟨_, List.getElem?_eq_getElem (List.length_pos_iff.2 h0)⟩
  have hch := hx c (List.mem_of_getElem? hc)
  have hcc := isHex_cases hch
  have hv : hexV l < 16777216 := by
    have h1 := hexV_lt l.length l rfl hx
    have h2 : 16 ^ l.length ≤ 16 ^ 6 := Nat.pow_le_pow_right (by omega) hl
    omega
  refine Does.bodyA tab Tryz.func181 rfl rfl ?_
  refine AC.step tab ?_
  refine gos ?_
  refine AC.step tab ?_
  refine gos ?_
  refine CmpW.f (by simpa using h0) ?_
  refine gos ?_
  refine AC.step tab ?_
  refine gos ?_
  refine AC.step tab ?_
  refine gos ?_
  refine And.intro (by decide) ⟨c, hc, ?_⟩
  refine gos ?_
  refine CmpW.f (by simp; omega) ?_
  refine gos ?_
  refine CmpW.f (by simp; omega) ?_
  refine gos ?_
  refine AC.step tab ?_
  refine gos ?_
  refine AC.step tab ?_
  refine gos ?_
  refine CallW.pure (iParseUint_does l h0 hl hx) rfl rfl ?_
  refine gos ?_
  refine AC.step tab ?_
  refine gos ?_
  refine AC.step tab ?_
  refine gos ?_
  refine AC.step tab ?_
  refine gos ?_
  refine And.intro ?_ ?_
  · decide
  refine gos ?_
  refine AC.step tab ?_
  refine gos ?_
  have hC : IntKind.u64.wrap (1 * 2 ^ min (IntKind.u64.wrap (32 - 1)).toNat IntKind.u64.bits) = 2147483648 := by decide
  rw [hC]
  refine CmpW.N ?_
  refine gos ?_
  refine AC.step tab ?_
  refine gos ?_
  refine AC.step tab ?_
  refine gos ?_
  have hW : IntKind.i64.wrap (hexV l : Int) = (hexV l : Int) := wrap_i64 (by omega) (by omega)
  refine AC.step tab ?_
  refine gos ?_
  refine AC.go tab ?_
  refine gos ?_
  refine RetW.plain (by simp) ?_
  first | rfl | (rw [hW])
theorem ParseInt_does (l : List UInt8) (h0 : l ≠ []) (hl : l.length ≤ 6) (hx : ∀ c ∈ l, isHex c = true) : Does Tryz.prog G 167 [.str l, .int .i64 16, .int .i64 32] [] fun ae _ => ae = .ret (.tuple [.int .i64 (hexV l), .nili]) := by
  refine Does.body tab Tryz.func167 rfl rfl ?_
  refine gos ?_
  refine CallW.pure (iParseInt_does l h0 hl hx) rfl rfl ?_
  refine gos ?_
  refine RetW.plain (by simp) ?_
  rfl
end Go.Proofs.YtpipbjfcbbdicaaGreatDoor

namespace Go.Proofs.YtpipbjfcbbdicaaGreatDoor
open Go Go.Abs
attribute [local irreducible] DrawW CallW RetW AC Does CmpW
variable {G : Globs}

theorem decFrom_digits : ∀ (l : List UInt8) (acc : Nat), (∀ c ∈ l, (48 ≤ c && c ≤ 57) = true) → ∃ n, Lib.decFrom acc l = some n
  | [], acc, _ => ⟨acc, rfl⟩
  | c :: l, acc, h => by
    have hc := h c (by simp)
    simp only [Bool.and_eq_true, decide_eq_true_eq] at hc
    have h1 : 48 ≤ c.toNat := hc.1
    have h2 : c.toNat ≤ 57 := hc.2
    unfold Lib.decFrom Lib.digitVal
    rw [if_pos ⟨h1, h2⟩]
    exact decFrom_digits l _ fun d hd => h d (by simp [hd])
theorem atoi_digits (l : List UInt8) (hl : l ≠ []) (h : ∀ c ∈ l, (48 ≤ c && c ≤ 57) = true) : ∃ n : Nat, Lib.atoi l = some (n : Int) := by
  cases l with
  | nil => exact absurd rfl hl
  | cons c l =>
    have hc := h c (by simp)
    simp only [Bool.and_eq_true, decide_eq_true_eq] at hc
    have h1 : 48 ≤ c.toNat := hc.1
    have e1 : (c == 45) = false := by rw [beq_eq_false_iff_ne]; intro e; subst e; simp at h1
    have e2 : (c == 43) = false := by rw [beq_eq_false_iff_ne]; intro e; subst e; simp at h1
    obtain ⟨n, hn⟩ := decFrom_digits (c :: l) 0 h
    refine ⟨n, ?_⟩
    simp only [Lib.atoi, e1, e2, Bool.false_eq_true, if_false, Lib.decNat, List.isEmpty_cons, hn, Option.map_some]
theorem Atoi_does (s : List UInt8) (n : Int) (hl : s.length ≤ 18) (h : Lib.atoi s = some n) : Does Tryz.prog G 172 [.str s] [] fun ae _ => ae = .ret (.tuple [.int .i64 n, .nili]) :=
  Does.of_calls (v := .tuple #[.int .i64 n, .nilIface]) Tryz.func172 rfl rfl (fun C => by simp [RepF, RepFL]) fun C cargs hg hr => by
    rw [rep_str1 hr]
    refine (Tryz.strconv_Atoi ⟨⟨s⟩⟩ n hl h C.w).mono ?_
    rintro e w' ⟨rfl, t, rfl⟩
    exact ⟨rfl, Lib.bytesWorld_below _ _ _⟩

def dgs (s : List UInt8) (b : Nat) : List UInt8 := (s.drop b).takeWhile fun c => 48 ≤ c && c ≤ 57
/-- A number, where it stands, where it ends; or why not. -/
def valF (s : List UInt8) (a : Nat) : Except (Int × Nat) (Nat × Nat × Nat) :=
  if (dgs s (bl s a)).length = 0 ∨ (1 < (dgs s (bl s a)).length ∧ s[bl s a]? = some 48) then .error (1, bl s a)
  else if 9 < (dgs s (bl s a)).length then .error (2, bl s a)
  else .ok (((Lib.atoi (dgs s (bl s a))).getD 0).toNat, bl s a, bl s a + (dgs s (bl s a)).length)
theorem valF_le {s : List UInt8} {a : Nat} (ha : a ≤ s.length) {v at_ b : Nat} (h : valF s a = .ok (v, at_, b)) : a < b ∧ b ≤ s.length := by
  unfold valF at h
  split at h; · cases h
  split at h; · cases h
  rename_i h1 h2
  simp only [Except.ok.injEq, Prod.mk.injEq] at h
  obtain ⟨_, _, rfl⟩ := h
  have hb := bl_le ha
  have ht : bl s a + (dgs s (bl s a)).length ≤ s.length := tw_le _ hb.2
  omega

theorem value_does (s : List UInt8) (a n : Nat) (F : Fnd) (ha : a ≤ s.length) (hs : s.length < 100000) (ver : Nat) :
    Does Tryz.prog G 158 [.ptr 0 ver 0 0] [some (rro ver s a n F)] fun ae O => match valF s a with
      | .error r => ae = .panic (rfault r)
      | .ok (v, at_, b) => ae = .ret (.tuple [.int .i64 v, .int .i64 at_]) ∧ O = [some (rro ver s b n F)] := by
  refine Does.body tab Tryz.func158 rfl rfl ?_
  refine gos ?_
  refine CallW.meth 0 (blanks_does s a n F ha hs ver) rfl rfl rfl rfl rfl rfl ?_
  refine gos ?_
  have hb := bl_le ha
  obtain ⟨D, hD⟩ : ∃ D, D = dgs s (bl s a) := ⟨_, rfl⟩
  have hr : Does Tryz.prog G 143 [.ptr 0 ver 0 0, .int .u8 (48 : UInt8).toNat, .int .u8 (57 : UInt8).toNat] [some (rro ver s (bl s a) n F)] fun ae O => ae = .ret (.int .i64 D.length) ∧ O = [some (rro ver s (bl s a) n F)] := by
    rw [hD]; exact run_does (G := G) s 48 57 (bl s a) n F hb.2 hs ver
  have ht : bl s a + D.length ≤ s.length := by rw [hD]; exact tw_le _ hb.2
  have htx : (s.take (bl s a + D.length)).drop (bl s a) = D := by rw [hD]; exact tw_text s (fun c => (48 : UInt8) ≤ c && c ≤ 57) (bl s a)
  have hall : ∀ c ∈ D, (48 ≤ c && c ≤ 57) = true := fun c hc => by
    have := List.all_takeWhile (p := fun c => (48 : UInt8) ≤ c && c ≤ 57) (l := s.drop (bl s a))
    rw [hD] at hc
    exact List.all_eq_true.1 this c hc
  have hpre : D[0]? = if D.length = 0 then none else s[bl s a]? := by
    split
    · rename_i h0; rw [List.eq_nil_of_length_eq_zero h0]; rfl
    · rename_i h0
      have := List.prefix_iff_eq_take.1 (List.takeWhile_prefix (fun c => (48 : UInt8) ≤ c && c ≤ 57) (l := s.drop (bl s a)))
      have e : D = (s.drop (bl s a)).take D.length := by rw [hD]; exact this
      rw [e, List.getElem?_take, if_pos (by omega), List.getElem?_drop, Nat.add_zero]
  have hgo : ((s.take ((bl s a : Int) + (D.length : Int)).toNat).drop (bl s a : Int).toNat) = D := by
    rw [show ((bl s a : Int) + (D.length : Int)).toNat = bl s a + D.length by omega, Int.toNat_natCast, htx]
  have hF : valF s a = if D.length = 0 ∨ (1 < D.length ∧ s[bl s a]? = some 48) then .error (1, bl s a)
      else if 9 < D.length then .error (2, bl s a) else .ok (((Lib.atoi D).getD 0).toNat, bl s a, bl s a + D.length) := by rw [hD]; rfl
  rw [hF]
  clear hF hD
  refine DrawW.P (.take 0 (.take 1 (.take 2 (.take 4 (.fork (.cons 3 (.take 5 (.take 6 (.take 7 .done))) (.cons 5 (.take 3 (.take 6 (.take 7 .done))) .nil))))))) ?_
  (repeat' (first | exact trivial | refine gon ?_ | refine CallW.meth 0 hr rfl rfl rfl rfl rfl rfl ?_ | refine And.intro (And.intro (by omega) (And.intro (by omega) (by omega))) ?_ | refine And.intro ?_ ?_))
  all_goals
    refine gos ?_
    rw [hgo]
    by_cases h0 : D.length = 0
    · refine CmpW.T ?_
      refine gos ?_
      refine CallW.of0 (rfail_does _ _) rfl ?_
      rintro ae ⟨rfl, _⟩
      refine ⟨rfl, ?_⟩
      refine gos ?_
      refine ⟨by simp, ?_⟩
      rw [if_pos (.inl h0)]
    · refine CmpW.N ?_
      refine gos ?_
      rw [if_neg h0] at hpre
      obtain ⟨c, hc⟩ : ∃ c, D[0]? = some c := ⟨_, List.getElem?_eq_getElem (by omega)⟩
      by_cases h1 : 1 < D.length
      · refine CmpW.T ?_
        refine gos ?_
        refine And.intro (by simp) ⟨c, hc, ?_⟩
        refine gos ?_
        by_cases h48 : c = 48
        · subst h48
          refine CmpW.t (by simp) ?_
          refine gos ?_
          refine CallW.of0 (rfail_does _ _) rfl ?_
          rintro ae ⟨rfl, _⟩
          refine ⟨rfl, ?_⟩
          refine gos ?_
          refine ⟨by simp, ?_⟩
          rw [if_pos (.inr ⟨h1, by rw [← hpre]; exact hc⟩)]
        · refine CmpW.f (by simp; exact fun h => h48 (u8_of h rfl)) ?_
          refine gos ?_
          have hnn : ¬ (D.length = 0 ∨ (1 < D.length ∧ s[bl s a]? = some 48)) := by
            rintro (h | ⟨_, h⟩)
            · exact h0 h
            · rw [← hpre, hc] at h; exact h48 (Option.some.inj h)
          rw [if_neg hnn]
          by_cases h9 : 9 < D.length
          · refine CmpW.T ?_
            refine gos ?_
            refine CallW.of0 (rfail_does _ _) rfl ?_
            rintro ae ⟨rfl, _⟩
            refine ⟨rfl, ?_⟩
            refine gos ?_
            refine ⟨by simp, ?_⟩
            rw [if_pos h9]
          · refine CmpW.N ?_
            refine gos ?_
            obtain ⟨v, hv⟩ := atoi_digits D (fun e => h0 (by simp [e])) hall
            refine CallW.pure (Atoi_does D v (by omega) hv) rfl rfl ?_
            refine gos ?_
            refine RetW.plain (by simp) ?_
            rw [if_neg h9, hv]
            exact ⟨rfl, rfl⟩
      · refine CmpW.N ?_
        refine gos ?_
        have hnn : ¬ (D.length = 0 ∨ (1 < D.length ∧ s[bl s a]? = some 48)) := by
          rintro (h | ⟨h, _⟩)
          · exact h0 h
          · exact h1 h
        rw [if_neg hnn]
        by_cases h9 : 9 < D.length
        · omega
        · refine CmpW.N ?_
          refine gos ?_
          obtain ⟨v, hv⟩ := atoi_digits D (fun e => h0 (by simp [e])) hall
          refine CallW.pure (Atoi_does D v (by omega) hv) rfl rfl ?_
          refine gos ?_
          refine RetW.plain (by simp) ?_
          rw [if_neg h9, hv]
          exact ⟨rfl, rfl⟩

/-- A range. -/
def spaF (s : List UInt8) (a : Nat) : Except (Int × Nat) ((Nat × Nat) × Nat) :=
  match valF s a with
  | .error r => .error r
  | .ok (lo, _, b) =>
    if pre s (bl s b) [46, 46] then match valF s (bl s b + 2) with
      | .error r => .error r
      | .ok (hi, at_, c) => if hi < lo then .error (3, at_) else .ok ((lo, hi), c)
    else .ok ((lo, lo), bl s b)
theorem spaF_le {s : List UInt8} {a : Nat} (ha : a ≤ s.length) {r : Nat × Nat} {b : Nat} (h : spaF s a = .ok (r, b)) : a < b ∧ b ≤ s.length := by
  unfold spaF at h
  split at h; · cases h
  rename_i lo at_ c hv
  have h1 := valF_le ha hv
  have h2 := bl_le h1.2
  split at h
  · rename_i hp
    have hle := pre_le hp (by simp)
    simp only [List.length_cons, List.length_nil] at hle
    split at h; · cases h
    rename_i hi at2 d hv2
    have h3 := valF_le (a := bl s c + 2) (by omega) hv2
    split at h; · cases h
    simp only [Except.ok.injEq, Prod.mk.injEq] at h
    omega
  · simp only [Except.ok.injEq, Prod.mk.injEq] at h
    omega
theorem span_does (s : List UInt8) (a n : Nat) (F : Fnd) (ha : a ≤ s.length) (hs : s.length < 100000) (ver : Nat) :
    Does Tryz.prog G 159 [.ptr 0 ver 0 0] [some (rro ver s a n F)] fun ae O => match spaF s a with
      | .error r => ae = .panic (rfault r)
      | .ok (r, b) => ae = .ret (.agg [.int .i64 r.1, .int .i64 r.2]) ∧ O = [some (rro ver s b n F)] := by
  refine Does.body tab Tryz.func159 rfl rfl ?_
  refine gos ?_
  intro v1
  refine gos ?_
  refine CallW.of1p 0 (value_does s a n F ha hs ver) rfl rfl rfl rfl ?_
  intro ae O hw
  cases hv : valF s a with
  | error r =>
    rw [hv] at hw
    subst hw
    refine ⟨rfl, fun s' hl => ?_⟩
    refine gos ?_
    exact ⟨by rw [hl]; simp, by simp only [spaF, hv]⟩
  | ok q =>
    obtain ⟨lo, at_, b⟩ := q
    rw [hv] at hw
    obtain ⟨rfl, rfl⟩ := hw
    refine ⟨_, rfl, rfl, rfl, ?_⟩
    have h1 := valF_le ha hv
    have h2 := bl_le h1.2
    refine gos ?_
    refine CallW.meth 0 (take_does s [46, 46] b n F h1.2 hs ver) rfl rfl rfl rfl rfl rfl ?_
    cases hp : pre s (bl s b) [46, 46] with
    | false =>
      simp only [Bool.false_eq_true, if_false]
      refine gos ?_
      refine RetW.plain (by simp) ?_
      simp only [spaF, hv, hp, Bool.false_eq_true, if_false]
      (first | exact ⟨rfl, rfl⟩ | exact ⟨trivial, rfl⟩ | exact ⟨rfl, trivial⟩ | rfl | trivial | done)
    | true =>
      have hle := pre_le hp (by simp)
      simp only [List.length_cons, List.length_nil] at hle
      simp only [if_true]
      refine gos ?_
      refine CallW.of1p 0 (value_does s (bl s b + 2) n F (by omega) hs ver) rfl rfl rfl rfl ?_
      intro ae O hw
      cases hv2 : valF s (bl s b + 2) with
      | error r =>
        rw [hv2] at hw
        subst hw
        refine ⟨rfl, fun s' hl => ?_⟩
        refine gos ?_
        exact ⟨by rw [hl]; simp, by simp only [spaF, hv, hp, hv2, if_true]⟩
      | ok q =>
        obtain ⟨hi, at2, c⟩ := q
        rw [hv2] at hw
        obtain ⟨rfl, rfl⟩ := hw
        refine ⟨_, rfl, rfl, rfl, ?_⟩
        refine gos ?_
        by_cases h3 : hi < lo
        · refine CmpW.T ?_
          refine gos ?_
          refine CallW.of0 (rfail_does _ _) rfl ?_
          rintro ae ⟨rfl, _⟩
          refine ⟨rfl, ?_⟩
          refine gos ?_
          exact ⟨by simp, by simp only [spaF, hv, hp, hv2, if_true, if_pos h3]⟩
        · refine CmpW.N ?_
          refine gos ?_
          refine RetW.plain (by simp) ?_
          simp only [spaF, hv, hp, hv2, if_true, if_neg h3]
          (first | exact ⟨rfl, rfl⟩ | exact ⟨trivial, rfl⟩ | exact ⟨rfl, trivial⟩ | rfl | trivial | done)

theorem take_t {s t : List UInt8} {a : Nat} (c : Nat) (hp : pre s (bl s a) t = true) (hc : bl s a + t.length = c) (n : Nat) (F : Fnd) (ha : a ≤ s.length) (hs : s.length < 100000) (ver : Nat) :
    Does Tryz.prog G 92 [.ptr 0 ver 0 0, .str t] [some (rro ver s a n F)] fun ae O => ae = .ret (.bool true) ∧ O = [some (rro ver s c n F)] := by
  have h := take_does (G := G) s t a n F ha hs ver
  rw [hp] at h
  simp only [if_true, hc] at h
  exact h
theorem take_f {s t : List UInt8} {a : Nat} (hp : pre s (bl s a) t = false) (n : Nat) (F : Fnd) (ha : a ≤ s.length) (hs : s.length < 100000) (ver : Nat) :
    Does Tryz.prog G 92 [.ptr 0 ver 0 0, .str t] [some (rro ver s a n F)] fun ae O => ae = .ret (.bool false) ∧ O = [some (rro ver s (bl s a) n F)] := by
  have h := take_does (G := G) s t a n F ha hs ver
  rw [hp] at h
  simpa only [Bool.false_eq_true, if_false] using h
theorem next_does (s t : List UInt8) (a n : Nat) (F : Fnd) (ha : a ≤ s.length) (hs : s.length < 100000) (ver : Nat) :
    Does Tryz.prog G 123 [.ptr 0 ver 0 0, .str t] [some (rro ver s a n F)] fun ae O => ae = .ret (.bool (decide (wd s a = t))) ∧ O = [some (rro ver s (if wd s a = t then bl s a + t.length else bl s a) n F)] := by
  refine Does.body tab Tryz.func123 rfl rfl ?_
  refine gos ?_
  refine CallW.meth 0 (word_does s a n F ha hs ver) rfl rfl rfl rfl rfl rfl ?_
  have hb := bl_le ha
  have hl : bl s a + (wd s a).length ≤ s.length := tw_le _ hb.2
  refine gos ?_
  by_cases h : wd s a = t
  · refine CmpW.f (by simpa using h) ?_
    have ht : bl s a + t.length ≤ s.length := by rw [← h]; exact hl
    refine gos ?_
    refine RetW.plain (by simp) ?_
    simp only [h, decide_true, if_true]
    exact ⟨trivial, rfl⟩
  · refine CmpW.t (by simpa using h) ?_
    refine gos ?_
    refine RetW.plain (by simp) ?_
    simp only [h, decide_false, if_false]
    exact ⟨trivial, rfl⟩
end Go.Proofs.YtpipbjfcbbdicaaGreatDoor
