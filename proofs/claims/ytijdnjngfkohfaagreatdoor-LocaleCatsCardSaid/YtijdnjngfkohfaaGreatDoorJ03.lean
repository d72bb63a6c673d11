/- Signed numbers by the base of sixteen. -/
import Derived.Test.YtijdnjngfkohfaaGreatDoorJ02
set_option linter.unusedVariables false
set_option linter.unusedSimpArgs false
set_option maxRecDepth 100000
set_option maxHeartbeats 4000000

namespace Go.Proofs.YtijdnjngfkohfaaGreatDoor
open Go Go.Abs
theorem u8_of {c d : UInt8} {n : Int} (h : (c.toNat : Int) = n) (hd : (d.toNat : Int) = n) : c = d := UInt8.toNat_inj.1 (by omega)
def tw (s : List UInt8) (p : UInt8 → Bool) (a : Nat) : Nat := ((s.drop a).takeWhile p).length
theorem twl_in (p : UInt8 → Bool) : ∀ (l : List UInt8) (n : Nat), n < (l.takeWhile p).length → ∃ c, l[n]? = some c ∧ p c = true
  | [], n, h => by simp at h
  | c :: l, n, h => by
    by_cases hp : p c = true
    · cases n with
      | zero => exact ⟨c, rfl, hp⟩
      | succ n => simp [hp] at h; simpa using twl_in p l n h
    · simp [hp] at h
theorem twl_at (p : UInt8 → Bool) : ∀ (l : List UInt8) (c : UInt8), l[(l.takeWhile p).length]? = some c → p c = false
  | [], c, h => by simp at h
  | d :: l, c, h => by
    by_cases hp : p d = true
    · simp [hp] at h; exact twl_at p l c h
    · simp [hp] at h; subst h; simpa using hp
theorem tw_in {s : List UInt8} {p : UInt8 → Bool} {a n : Nat} (h : n < tw s p a) : ∃ c, s[a + n]? = some c ∧ p c = true := by
  obtain ⟨c, h1, h2⟩ := twl_in p _ n h
  rw [List.getElem?_drop] at h1
  exact ⟨c, h1, h2⟩
theorem tw_at {s : List UInt8} {p : UInt8 → Bool} {a : Nat} {c : UInt8} (h : s[a + tw s p a]? = some c) : p c = false := by
  refine twl_at p (s.drop a) c ?_
  rw [List.getElem?_drop]; exact h
theorem tw_le {s : List UInt8} (p : UInt8 → Bool) {a : Nat} (h : a ≤ s.length) : a + tw s p a ≤ s.length := by
  have := (List.takeWhile_prefix p (l := s.drop a)).length_le
  rw [List.length_drop] at this
  unfold tw; omega
theorem tw_go {s : List UInt8} {p : UInt8 → Bool} {a n : Nat} {c : UInt8} (h : n ≤ tw s p a) (hc : s[a + n]? = some c) (hp : p c = true) : n + 1 ≤ tw s p a := by
  by_cases e : n = tw s p a
  · subst e; rw [tw_at hc] at hp; cases hp
  · omega
theorem tw_stop {s : List UInt8} {p : UInt8 → Bool} {a n : Nat} (h : n ≤ tw s p a) (hc : ∀ c, s[a + n]? = some c → p c = false) : n = tw s p a := by
  by_cases e : n = tw s p a
  · exact e
  · obtain ⟨c, h1, h2⟩ := tw_in (s := s) (p := p) (a := a) (n := n) (by omega)
    rw [hc c h1] at h2; cases h2
theorem tw_text (s : List UInt8) (p : UInt8 → Bool) (a : Nat) : (s.take (a + tw s p a)).drop a = (s.drop a).takeWhile p := by
  rw [List.drop_take, Nat.add_sub_cancel_left]
  exact (List.prefix_iff_eq_take.1 (List.takeWhile_prefix p)).symm
def bl (s : List UInt8) (a : Nat) : Nat := a + tw s (fun c => c == 32) a
theorem bl_le {s : List UInt8} {a : Nat} (h : a ≤ s.length) : a ≤ bl s a ∧ bl s a ≤ s.length := ⟨by unfold bl; omega, tw_le _ h⟩
theorem bl_bl (s : List UInt8) (a : Nat) : bl s (bl s a) = bl s a := by
  have : tw s (fun c => c == 32) (bl s a) = 0 := (tw_stop (Nat.zero_le _) fun c hc => tw_at (a := a) (p := fun c => c == 32) (by rw [Nat.add_zero] at hc; exact hc)).symm
  unfold bl at *; omega
end Go.Proofs.YtijdnjngfkohfaaGreatDoor

namespace Go.Proofs.YtijdnjngfkohfaaGreatDoor
open Go Go.Abs
attribute [local irreducible] DrawW CallW RetW AC Does CmpW
set_option maxRecDepth 100000
variable {G : Globs}
def rdr (ver : Nat) (s : List UInt8) (a : Nat) : AObj := ⟨ver, 290, 2, [[.str s, .int .i64 a]]⟩
def pre (s : List UInt8) (a : Nat) (t : List UInt8) : Bool := t.isPrefixOf (s.drop a)
theorem pre_le {s t : List UInt8} {a : Nat} (h : pre s a t = true) (ht : t ≠ []) : a + t.length ≤ s.length := by
  have h1 := (List.isPrefixOf_iff_prefix.1 h).length_le
  rw [List.length_drop] at h1
  have : 0 < t.length := List.length_pos_iff.2 ht
  omega
theorem take_yes {s t : List UInt8} {a : Nat} (n : Nat) (hn : t.length = n) (h : pre s a t = true) (ha : a + n ≤ s.length) (hs : s.length < 4294967296) (ver : Nat) :
    Does Tryz.prog G 224 [.ptr 0 ver 0 0, .str t] [some (rdr ver s a)] fun ae O => ae = .ret (.bool true) ∧ O = [some (rdr ver s (a + n))] := by
  subst hn
  refine Does.body tab Tryz.func224 rfl rfl ?_
  refine DrawW.L ?_
  refine gos ?_
  refine And.intro (And.intro (by omega) (by omega)) ?_
  refine CallW.pure (HasPrefix_does G _ _) rfl rfl ?_
  have h' : t.isPrefixOf (s.drop (a : Int).toNat) = true := h
  rw [h']
  refine gos ?_
  refine RetW.plain (Nat.le_refl _) ?_
  exact ⟨rfl, rfl⟩
theorem take_no {s t : List UInt8} {a : Nat} (h : pre s a t = false) (ha : a ≤ s.length) (ver : Nat) :
    Does Tryz.prog G 224 [.ptr 0 ver 0 0, .str t] [some (rdr ver s a)] fun ae O => ae = .ret (.bool false) ∧ O = [some (rdr ver s a)] := by
  refine Does.body tab Tryz.func224 rfl rfl ?_
  refine DrawW.L ?_
  refine gos ?_
  refine And.intro (And.intro (by omega) (by omega)) ?_
  refine CallW.pure (HasPrefix_does G _ _) rfl rfl ?_
  have h' : t.isPrefixOf (s.drop (a : Int).toNat) = false := h
  rw [h']
  refine gos ?_
  refine RetW.plain (Nat.le_refl _) ?_
  exact ⟨rfl, rfl⟩
def faultV (a : Nat) : AV := .iface 286 (.agg [.int .i64 a])
theorem fail_does (s : List UInt8) (a ver : Nat) :
    Does Tryz.prog G 225 [.ptr 0 ver 0 0] [some (rdr ver s a)] fun ae O => ae = .panic (faultV a) ∧ O = [some (rdr ver s a)] := by
  refine Does.body tab Tryz.func225 rfl rfl ?_
  refine gos ?_
  exact ⟨Nat.le_refl _, rfl, rfl⟩
structure Piece where
  kind : Int
  text : List UInt8
  n : Int
def encP (p : Piece) : List AV := [.int .i64 p.kind, .str p.text, .int .i64 p.n]
def curN (s : List UInt8) : Nat → Nat → Nat
  | 0, _ => 0
  | f + 1, a => if pre s a [194, 164] then curN s f (a + 2) + 1 else 0
def signF (s : List UInt8) (a : Nat) : Piece × Bool × Nat :=
  if pre s a [45] then (⟨1, [], 0⟩, true, a + 1)
  else if pre s a [43] then (⟨2, [], 0⟩, true, a + 1)
  else if pre s a [37] then (⟨3, [], 0⟩, true, a + 1)
  else if pre s a [226, 128, 176] then (⟨4, [], 0⟩, true, a + 3)
  else (⟨5, [], curN s s.length a⟩, decide (0 < curN s s.length a), a + 2 * curN s s.length a)
theorem sign_does (s : List UInt8) (a : Nat) (ha : a ≤ s.length) (hs : s.length < 4294967296) (ver : Nat) :
    Does Tryz.prog G 254 [.ptr 0 ver 0 0] [some (rdr ver s a)] fun ae O => ae = .ret (.tuple [.agg (encP (signF s a).1), .bool (signF s a).2.1]) ∧ O = [some (rdr ver s (signF s a).2.2)] := by
  refine Does.body tab Tryz.func254 rfl rfl ?_
  refine gos ?_
  intro v2
  refine gos ?_
  refine AC.rounds tab 6 ?_
  refine gos ?_
  cases h1 : pre s a [45] with
  | true =>
    refine CallW.meth 0 (take_yes 1 rfl h1 (pre_le h1 (by simp)) hs _) rfl rfl rfl rfl rfl rfl ?_
    refine gos ?_
    refine RetW.plain (by simp) ?_
    simp [signF, h1, encP]
  | false =>
    refine CallW.meth 0 (take_no h1 ha _) rfl rfl rfl rfl rfl rfl ?_
    refine gos ?_
    cases h2 : pre s a [43] with
    | true =>
      refine CallW.meth 0 (take_yes 1 rfl h2 (pre_le h2 (by simp)) hs _) rfl rfl rfl rfl rfl rfl ?_
      refine gos ?_
      refine RetW.plain (by simp) ?_
      simp [signF, h1, h2, encP]
    | false =>
      refine CallW.meth 0 (take_no h2 ha _) rfl rfl rfl rfl rfl rfl ?_
      refine gos ?_
      cases h3 : pre s a [37] with
      | true =>
        refine CallW.meth 0 (take_yes 1 rfl h3 (pre_le h3 (by simp)) hs _) rfl rfl rfl rfl rfl rfl ?_
        refine gos ?_
        refine RetW.plain (by simp) ?_
        simp [signF, h1, h2, h3, encP]
      | false =>
        refine CallW.meth 0 (take_no h3 ha _) rfl rfl rfl rfl rfl rfl ?_
        refine gos ?_
        cases h4 : pre s a [226, 128, 176] with
        | true =>
          refine CallW.meth 0 (take_yes 3 rfl h4 (pre_le h4 (by simp)) hs _) rfl rfl rfl rfl rfl rfl ?_
          refine gos ?_
          refine RetW.plain (by simp) ?_
          simp [signF, h1, h2, h3, h4, encP]
        | false =>
          refine CallW.meth 0 (take_no h4 ha _) rfl rfl rfl rfl rfl rfl ?_
          refine gos ?_
          refine AC.loopF tab (fun n e h => ∃ k, n = s.length - k ∧ a + 2 * k ≤ s.length ∧ curN s s.length a = k + curN s (s.length - k) (a + 2 * k) ∧ e = [.ptr 0 ver 0 0, .any, .ptr 1 v2 0 0, .bool false, .any, .any, .int .i64 k] ++ List.replicate 23 .any ∧
              h = [some (rdr ver s (a + 2 * k)), some ⟨v2, 366, 3, [[.int .i64 0, .str [], .int .i64 0]]⟩]) s.length ⟨_, fgts, 0, by simp, by omega, by simp, rfl, rfl⟩ ?_
          rintro n e h ⟨k, rfl, hk, hc, rfl, rfl⟩
          cases hp : pre s (a + 2 * k) [194, 164] with
          | true =>
            have hle := pre_le hp (by simp)
            simp only [List.length_cons, List.length_nil] at hle
            refine CallW.meth 0 (take_yes 2 rfl hp (by omega) hs _) rfl rfl rfl rfl rfl rfl ?_
            refine gos ?_
            have e1 : (k : Int) + 1 = ((k + 1 : Nat) : Int) := by omega
            rw [e1]
            refine ⟨_, _, ?_, fgts, k + 1, rfl, by omega, ?_, rfl, rfl⟩
            · omega
            · rw [hc]
              obtain ⟨f, hf⟩ : ∃ f, s.length - k = f + 1 := ⟨s.length - k - 1, by omega⟩
              rw [hf, show s.length - (k + 1) = f by omega]
              simp only [curN, hp, if_true]
              rw [show a + 2 * (k + 1) = a + 2 * k + 2 by omega]; omega
          | false =>
            refine CallW.meth 0 (take_no hp hk _) rfl rfl rfl rfl rfl rfl ?_
            refine gos ?_
            refine CmpW.s ?_
            refine gos ?_
            refine RetW.plain (by simp) ?_
            have h0 : curN s (s.length - k) (a + 2 * k) = 0 := by
              cases s.length - k with
              | zero => rfl
              | succ f => simp [curN, hp]
            rw [h0] at hc
            simp [signF, h1, h2, h3, h4, encP, hc]
end Go.Proofs.YtijdnjngfkohfaaGreatDoor

namespace Go.Proofs.YtijdnjngfkohfaaGreatDoor
open Go Go.Abs
attribute [local irreducible] DrawW CallW RetW AC Does CmpW
variable {G : Globs}
def isHex (c : UInt8) : Bool := (48 ≤ c && c ≤ 57) || (97 ≤ c && c ≤ 102)
def hexD (c : UInt8) : Nat := if c.toNat ≤ 57 then c.toNat - 48 else c.toNat - 87
def hexV (l : List UInt8) : Nat := l.foldl (fun n c => n * 16 + hexD c) 0
theorem isHex_cases {c : UInt8} (h : isHex c = true) : (48 ≤ c.toNat ∧ c.toNat ≤ 57) ∨ (97 ≤ c.toNat ∧ c.toNat ≤ 102) := by
  simp only [isHex, Bool.or_eq_true, Bool.and_eq_true, decide_eq_true_eq] at h
  rcases h with ⟨h1, h2⟩ | ⟨h1, h2⟩
  · exact .inl ⟨h1, h2⟩
  · exact .inr ⟨h1, h2⟩
theorem hexD_lt {c : UInt8} (h : isHex c = true) : hexD c < 16 := by
  unfold hexD
  rcases isHex_cases h with h | h <;> split <;> omega
theorem hexV_snoc (l : List UInt8) (c : UInt8) : hexV (l ++ [c]) = hexV l * 16 + hexD c := by simp [hexV]
theorem hexV_lt : ∀ (n : Nat) (l : List UInt8), l.length = n → (∀ c ∈ l, isHex c = true) → hexV l < 16 ^ n
  | 0, l, hl, _ => by rw [List.eq_nil_of_length_eq_zero hl]; simp [hexV]
  | n + 1, l, hl, h => by
    obtain ⟨l', c, rfl⟩ : ∃ l' c, l = l' ++ [c] := by
      have hne : l ≠ [] := by intro e; rw [e] at hl; simp at hl
      exact ⟨l.dropLast, l.getLast hne, (List.dropLast_concat_getLast hne).symm⟩
    rw [hexV_snoc]
    have h1 := hexV_lt n l' (by simpa using hl) (fun d hd => h d (by simp [hd]))
    have h2 := hexD_lt (h c (by simp))
    rw [Nat.pow_succ]; omega
theorem lower_does (c : UInt8) (h1 : 97 ≤ c.toNat) (h2 : c.toNat ≤ 102) : Does Tryz.prog G 312 [.int .u8 c.toNat] [] fun ae _ => ae = .ret (.int .u8 c.toNat) := by
  have h : c.toNat = 97 ∨ c.toNat = 98 ∨ c.toNat = 99 ∨ c.toNat = 100 ∨ c.toNat = 101 ∨ c.toNat = 102 := by omega
  rcases h with h | h | h | h | h | h
  all_goals
    rw [h]
    refine Does.body tab Tryz.func312 rfl rfl ?_
    refine gos ?_
    refine RetW.plain (by simp) ?_
    rfl
theorem iParseUint_does (l : List UInt8) (h0 : l ≠ []) (hl : l.length ≤ 6) (hx : ∀ c ∈ l, isHex c = true) : Does Tryz.prog G 306 [.str l, .int .i64 16, .int .i64 32] [] fun ae _ => ae = .ret (.tuple [.int .u64 (hexV l), .nili]) := by
  refine Does.bodyA tab Tryz.func306 rfl rfl ?_
  refine AC.step tab ?_
  refine gos ?_
  refine AC.step tab ?_
  refine gos ?_
  refine CmpW.f (by simpa using h0) ?_
  refine gos ?_
  refine AC.step tab ?_
  refine gos ?_
  refine AC.step tab ?_
  refine gos ?_
  refine AC.step tab ?_
  refine gos ?_
  refine AC.step tab ?_
  refine gos ?_
  refine AC.step tab ?_
  refine gos ?_
  refine AC.step tab ?_
  refine gos ?_
  refine AC.step tab ?_
  refine gos ?_
  refine And.intro ?_ ?_
  · decide
  refine gos ?_
  refine AC.step tab ?_
  refine gos ?_
  refine AC.step tab ?_
  refine gos ?_
  refine AC.cutF tab (fun e h => e = [.any, .any, .any, .any, .any, .any, .any, .any, .any, .str l, .any, .any, .bool false, .int .u64 (hexV l)] ++ List.replicate 158 .any ∧ h = []) ?_ ?_
  · refine gos ?_
    have hM : IntKind.u64.wrap (IntKind.u64.wrap (1 * 2 ^ min (IntKind.u64.wrap 32).toNat IntKind.u64.bits) - 1) = 4294967295 := by decide
    have hbl : (byteEs l).length = l.length := by simp [byteEs]
    rw [hM, hbl]
    refine AC.loopC tab (fun f e h => ∃ k : Nat, f + k = l.length + 1 ∧ k ≤ l.length ∧
      e = [.any, .int .i64 16, .any, .any, .any, .any, .any, .any, .bool false, .str l, .int .u64 1152921504606846976, .int .u64 4294967295, .bool false, .int .u64 (hexV (l.take k))] ++ List.replicate 85 .any ++ [.fsl (byteEs l), .int .i64 l.length, .int .i64 k] ++ List.replicate 70 .any ∧ h = []) (l.length + 1) ⟨_, fgts, 0, by omega, by omega, rfl, rfl⟩ ?_
    rintro f e h ⟨k, hf, hk, rfl, rfl⟩
    have hn : hexV (l.take k) < 16777216 := by
      have h1 := hexV_lt k (l.take k) (by simp; omega) (fun c hc => hx c (List.mem_of_mem_take hc))
      have h2 : 16 ^ k ≤ 16 ^ 6 := Nat.pow_le_pow_right (by omega) (by omega)
      omega
    refine gos ?_
    by_cases hlt : k < l.length
    · obtain ⟨c, hc⟩ : ∃ c, l[k]? = some c := ⟨_, List.getElem?_eq_getElem hlt⟩
      have hch := hx c (List.mem_of_getElem? hc)
      have hd16 := hexD_lt hch
      have htk : l.take (k + 1) = l.take k ++ [c] := by
        rw [List.take_add_one, hc]; rfl
      refine CmpW.T ?_
      refine gos ?_
      refine And.intro (fun y hy => by obtain ⟨z, _, rfl⟩ := List.mem_map.1 hy; rfl) (And.intro (by omega) ⟨[.int .u8 c.toNat], by rw [Int.toNat_natCast]; simp [byteEs, hc], ?_⟩)
      refine gos ?_
      have hcc := isHex_cases hch
      refine CmpW.f (by simp; omega) ?_
      refine gos ?_
      obtain ⟨n, hnE⟩ : ∃ n, n = hexV (l.take k) := ⟨_, rfl⟩
      rw [← hnE] at hn ⊢
      have hnn : hexV (l.take (k + 1)) = n * 16 + hexD c := by rw [htk, hexV_snoc, hnE]
      have e1 : IntKind.u64.wrap ((n : Int) * IntKind.u64.wrap 16) = ((n * 16 : Nat) : Int) := by
        rw [wrap_u64 (n := 16) (by omega) (by omega), wrap_u64 (by omega) (by omega)]; omega
      have e2 : IntKind.u64.wrap (((n * 16 : Nat) : Int) + IntKind.u64.wrap (hexD c : Int)) = ((n * 16 + hexD c : Nat) : Int) := by
        rw [wrap_u64 (n := (hexD c : Int)) (by omega) (by omega), wrap_u64 (by omega) (by omega)]; omega
      have e16 : IntKind.u8.wrap 16 = 16 := by decide
      rcases hcc with hcc | hcc
      · have e0 : IntKind.u8.wrap ((c.toNat : Int) - 48) = (hexD c : Int) := by
          rw [wrap_u8 (by omega) (by omega)]; unfold hexD; rw [if_pos (by omega)]; omega
        refine CmpW.T ?_
        refine gos ?_
        refine CmpW.T ?_
        refine gos ?_
        rw [e0, e16]
        refine CmpW.N ?_
        refine gos ?_
        refine CmpW.N ?_
        refine gos ?_
        rw [e1, e2]
        refine CmpW.N ?_
        refine gos ?_
        refine CmpW.N ?_
        refine gos ?_
        rw [← hnn]
        exact ⟨f - 1, _, 0, by omega, fgts, k + 1, by omega, by omega, rfl, rfl⟩
      · have e0 : IntKind.u8.wrap (IntKind.u8.wrap ((c.toNat : Int) - 97) + 10) = (hexD c : Int) := by
          rw [wrap_u8 (n := (c.toNat : Int) - 97) (by omega) (by omega), wrap_u8 (by omega) (by omega)]; unfold hexD; rw [if_neg (by omega)]; omega
        have hlw := lower_does (G := G) c hcc.1 hcc.2
        refine CmpW.T ?_
        refine gos ?_
        refine CmpW.N ?_
        refine gos ?_
        refine CallW.pure hlw rfl rfl ?_
        refine gos ?_
        refine CmpW.T ?_
        refine gos ?_
        refine CallW.pure hlw rfl rfl ?_
        refine gos ?_
        refine CmpW.T ?_
        refine gos ?_
        refine CallW.pure hlw rfl rfl ?_
        refine gos ?_
        rw [e0, e16]
        refine CmpW.N ?_
        refine gos ?_
        refine CmpW.N ?_
        refine gos ?_
        rw [e1, e2]
        refine CmpW.N ?_
        refine gos ?_
        refine CmpW.N ?_
        refine gos ?_
        rw [← hnn]
        exact ⟨f - 1, _, 0, by omega, fgts, k + 1, by omega, by omega, rfl, rfl⟩
    · refine CmpW.N ?_
      refine gos ?_
      have : k = l.length := by omega
      subst this
      rw [List.take_length]
      exact ⟨_, 0, fgts, rfl, rfl⟩
  rintro e h ⟨rfl, rfl⟩
  refine AC.go tab ?_
  refine gos ?_
  refine RetW.plain (by simp) ?_
  rfl
end Go.Proofs.YtijdnjngfkohfaaGreatDoor

namespace Go.Proofs.YtijdnjngfkohfaaGreatDoor
open Go Go.Abs
attribute [local irreducible] DrawW CallW RetW AC Does CmpW
variable {G : Globs}
theorem iParseInt_does (l : List UInt8) (h0 : l ≠ []) (hl : l.length ≤ 6) (hx : ∀ c ∈ l, isHex c = true) : Does Tryz.prog G 296 [.str l, .int .i64 16, .int .i64 32] [] fun ae _ => ae = .ret (.tuple [.int .i64 (hexV l), .nili]) := by
  obtain ⟨c, hc⟩ : ∃ c, l[0]? = some c := ⟨_, List.getElem?_eq_getElem (List.length_pos_iff.2 h0)⟩
  have hch := hx c (List.mem_of_getElem? hc)
  have hcc := isHex_cases hch
  have hv : hexV l < 16777216 := by
    have h1 := hexV_lt l.length l rfl hx
    have h2 : 16 ^ l.length ≤ 16 ^ 6 := Nat.pow_le_pow_right (by omega) hl
    omega
  refine Does.bodyA tab Tryz.func296 rfl rfl ?_
  refine AC.step tab ?_
  refine gos ?_
  refine AC.step tab ?_
  refine gos ?_
  refine CmpW.f (by simpa using h0) ?_
  refine gos ?_
  refine AC.step tab ?_
  refine gos ?_
  refine AC.step tab ?_
  refine gos ?_
  refine And.intro (by decide) ⟨c, hc, ?_⟩
  refine gos ?_
  refine CmpW.f (by simp; omega) ?_
  refine gos ?_
  refine CmpW.f (by simp; omega) ?_
  refine gos ?_
  refine AC.step tab ?_
  refine gos ?_
  refine AC.step tab ?_
  refine gos ?_
  refine CallW.pure (iParseUint_does l h0 hl hx) rfl rfl ?_
  refine gos ?_
  refine AC.step tab ?_
  refine gos ?_
  refine AC.step tab ?_
  refine gos ?_
  refine AC.step tab ?_
  refine gos ?_
  refine And.intro ?_ ?_
  · decide
  refine gos ?_
  refine AC.step tab ?_
  refine gos ?_
  have hC : IntKind.u64.wrap (1 * 2 ^ min (IntKind.u64.wrap (32 - 1)).toNat IntKind.u64.bits) = 2147483648 := by decide
  rw [hC]
  refine CmpW.N ?_
  refine gos ?_
  refine AC.step tab ?_
  refine gos ?_
  refine AC.step tab ?_
  refine gos ?_
  have hW : IntKind.i64.wrap (hexV l : Int) = (hexV l : Int) := wrap_i64 (by omega) (by omega)
  refine AC.step tab ?_
  refine gos ?_
  refine AC.go tab ?_
  refine gos ?_
  refine RetW.plain (by simp) ?_
  first | rfl | (rw [hW])
theorem ParseInt_does (l : List UInt8) (h0 : l ≠ []) (hl : l.length ≤ 6) (hx : ∀ c ∈ l, isHex c = true) : Does Tryz.prog G 280 [.str l, .int .i64 16, .int .i64 32] [] fun ae _ => ae = .ret (.tuple [.int .i64 (hexV l), .nili]) := by
  refine Does.body tab Tryz.func280 rfl rfl ?_
  refine gos ?_
  refine CallW.pure (iParseInt_does l h0 hl hx) rfl rfl ?_
  refine gos ?_
  refine RetW.plain (by simp) ?_
  rfl
end Go.Proofs.YtijdnjngfkohfaaGreatDoor
