/- The reader of patterns: affixes. -/
import Derived.Test.YtjjppmbojcgdgaaGreatDoorJ01
import Derived.Lib.QuoteLoop
set_option linter.unusedVariables false
set_option linter.unusedSimpArgs false
set_option maxRecDepth 100000
set_option maxHeartbeats 4000000

namespace Go.Proofs.YtjjppmbojcgdgaaGreatDoor
open Go Go.Abs
attribute [local irreducible] DrawW CallW RetW AC Does CmpW
set_option maxRecDepth 100000
variable {G : Globs}
def rdr (ver : Nat) (s : List UInt8) (a : Nat) : AObj := ⟨ver, 301, 2, [[.str s, .int .i64 a]]⟩
def pre (s : List UInt8) (a : Nat) (t : List UInt8) : Bool := t.isPrefixOf (s.drop a)
theorem pre_le {s t : List UInt8} {a : Nat} (h : pre s a t = true) (ht : t ≠ []) : a + t.length ≤ s.length := by
  have h1 := (List.isPrefixOf_iff_prefix.1 h).length_le
  rw [List.length_drop] at h1
  have : 0 < t.length := List.length_pos_iff.2 ht
  omega
theorem take_yes {s t : List UInt8} {a : Nat} (n : Nat) (hn : t.length = n) (h : pre s a t = true) (ha : a + n ≤ s.length) (hs : s.length < 4294967296) (ver : Nat) :
    Does Tryz.prog G 246 [.ptr 0 ver 0 0, .str t] [some (rdr ver s a)] fun ae O => ae = .ret (.bool true) ∧ O = [some (rdr ver s (a + n))] := by
  subst hn
  refine Does.body tab Tryz.func246 rfl rfl ?_
  refine DrawW.L ?_
  refine gos ?_
  refine And.intro (And.intro (by omega) (by omega)) ?_
  refine CallW.pure (HasPrefix_does G _ _) rfl rfl ?_
  have h' : t.isPrefixOf (s.drop (a : Int).toNat) = true := h
  rw [h']
  refine gos ?_
  refine RetW.plain (Nat.le_refl _) ?_
  exact ⟨rfl, rfl⟩
theorem take_no {s t : List UInt8} {a : Nat} (h : pre s a t = false) (ha : a ≤ s.length) (ver : Nat) :
    Does Tryz.prog G 246 [.ptr 0 ver 0 0, .str t] [some (rdr ver s a)] fun ae O => ae = .ret (.bool false) ∧ O = [some (rdr ver s a)] := by
  refine Does.body tab Tryz.func246 rfl rfl ?_
  refine DrawW.L ?_
  refine gos ?_
  refine And.intro (And.intro (by omega) (by omega)) ?_
  refine CallW.pure (HasPrefix_does G _ _) rfl rfl ?_
  have h' : t.isPrefixOf (s.drop (a : Int).toNat) = false := h
  rw [h']
  refine gos ?_
  refine RetW.plain (Nat.le_refl _) ?_
  exact ⟨rfl, rfl⟩
def faultV (a : Nat) : AV := .iface 297 (.agg [.int .i64 a])
theorem fail_does (s : List UInt8) (a ver : Nat) :
    Does Tryz.prog G 247 [.ptr 0 ver 0 0] [some (rdr ver s a)] fun ae O => ae = .panic (faultV a) ∧ O = [some (rdr ver s a)] := by
  refine Does.body tab Tryz.func247 rfl rfl ?_
  refine gos ?_
  exact ⟨Nat.le_refl _, rfl, rfl⟩
structure Piece where
  kind : Int
  text : List UInt8
  n : Int
def encP (p : Piece) : List AV := [.int .i64 p.kind, .str p.text, .int .i64 p.n]
def curN (s : List UInt8) : Nat → Nat → Nat
  | 0, _ => 0
  | f + 1, a => if pre s a [194, 164] then curN s f (a + 2) + 1 else 0
def signF (s : List UInt8) (a : Nat) : Piece × Bool × Nat :=
  if pre s a [45] then (⟨1, [], 0⟩, true, a + 1)
  else if pre s a [43] then (⟨2, [], 0⟩, true, a + 1)
  else if pre s a [37] then (⟨3, [], 0⟩, true, a + 1)
  else if pre s a [226, 128, 176] then (⟨4, [], 0⟩, true, a + 3)
  else (⟨5, [], curN s s.length a⟩, decide (0 < curN s s.length a), a + 2 * curN s s.length a)
theorem sign_does (s : List UInt8) (a : Nat) (ha : a ≤ s.length) (hs : s.length < 4294967296) (ver : Nat) :
    Does Tryz.prog G 276 [.ptr 0 ver 0 0] [some (rdr ver s a)] fun ae O => ae = .ret (.tuple [.agg (encP (signF s a).1), .bool (signF s a).2.1]) ∧ O = [some (rdr ver s (signF s a).2.2)] := by
  refine Does.body tab Tryz.func276 rfl rfl ?_
  refine gos ?_
  intro v2
  refine gos ?_
  refine AC.rounds tab 6 ?_
  refine gos ?_
  cases h1 : pre s a [45] with
  | true =>
    refine CallW.meth 0 (take_yes 1 rfl h1 (pre_le h1 (by simp)) hs _) rfl rfl rfl rfl rfl rfl ?_
    refine gos ?_
    refine RetW.plain (by simp) ?_
    simp [signF, h1, encP]
  | false =>
    refine CallW.meth 0 (take_no h1 ha _) rfl rfl rfl rfl rfl rfl ?_
    refine gos ?_
    cases h2 : pre s a [43] with
    | true =>
      refine CallW.meth 0 (take_yes 1 rfl h2 (pre_le h2 (by simp)) hs _) rfl rfl rfl rfl rfl rfl ?_
      refine gos ?_
      refine RetW.plain (by simp) ?_
      simp [signF, h1, h2, encP]
    | false =>
      refine CallW.meth 0 (take_no h2 ha _) rfl rfl rfl rfl rfl rfl ?_
      refine gos ?_
      cases h3 : pre s a [37] with
      | true =>
        refine CallW.meth 0 (take_yes 1 rfl h3 (pre_le h3 (by simp)) hs _) rfl rfl rfl rfl rfl rfl ?_
        refine gos ?_
        refine RetW.plain (by simp) ?_
        simp [signF, h1, h2, h3, encP]
      | false =>
        refine CallW.meth 0 (take_no h3 ha _) rfl rfl rfl rfl rfl rfl ?_
        refine gos ?_
        cases h4 : pre s a [226, 128, 176] with
        | true =>
          refine CallW.meth 0 (take_yes 3 rfl h4 (pre_le h4 (by simp)) hs _) rfl rfl rfl rfl rfl rfl ?_
          refine gos ?_
          refine RetW.plain (by simp) ?_
          simp [signF, h1, h2, h3, h4, encP]
        | false =>
          refine CallW.meth 0 (take_no h4 ha _) rfl rfl rfl rfl rfl rfl ?_
          refine gos ?_
          refine AC.loopF tab (fun n e h => ∃ k, n = s.length - k ∧ a + 2 * k ≤ s.length ∧ curN s s.length a = k + curN s (s.length - k) (a + 2 * k) ∧ e = [.ptr 0 ver 0 0, .any, .ptr 1 v2 0 0, .bool false, .any, .any, .int .i64 k] ++ List.replicate 23 .any ∧
              h = [some (rdr ver s (a + 2 * k)), some ⟨v2, 133, 3, [[.int .i64 0, .str [], .int .i64 0]]⟩]) s.length ⟨_, fgts, 0, by simp, by omega, by simp, rfl, rfl⟩ ?_
          rintro n e h ⟨k, rfl, hk, hc, rfl, rfl⟩
          cases hp : pre s (a + 2 * k) [194, 164] with
          | true =>
            have hle := pre_le hp (by simp)
            simp only [List.length_cons, List.length_nil] at hle
            refine CallW.meth 0 (take_yes 2 rfl hp (by omega) hs _) rfl rfl rfl rfl rfl rfl ?_
            refine gos ?_
            have e1 : (k : Int) + 1 = ((k + 1 : Nat) : Int) := by omega
            rw [e1]
            refine ⟨_, _, ?_, fgts, k + 1, rfl, by omega, ?_, rfl, rfl⟩
            · omega
            · rw [hc]
              obtain ⟨f, hf⟩ : ∃ f, s.length - k = f + 1 := ⟨s.length - k - 1, by omega⟩
              rw [hf, show s.length - (k + 1) = f by omega]
              simp only [curN, hp, if_true]
              rw [show a + 2 * (k + 1) = a + 2 * k + 2 by omega]; omega
          | false =>
            refine CallW.meth 0 (take_no hp hk _) rfl rfl rfl rfl rfl rfl ?_
            refine gos ?_
            refine CmpW.s ?_
            refine gos ?_
            refine RetW.plain (by simp) ?_
            have h0 : curN s (s.length - k) (a + 2 * k) = 0 := by
              cases s.length - k with
              | zero => rfl
              | succ f => simp [curN, hp]
            rw [h0] at hc
            simp [signF, h1, h2, h3, h4, encP, hc]
end Go.Proofs.YtjjppmbojcgdgaaGreatDoor

namespace Go.Proofs.YtjjppmbojcgdgaaGreatDoor
open Go Go.Abs
attribute [local irreducible] DrawW CallW RetW AC Does CmpW
set_option maxRecDepth 100000
variable {G : Globs}
def quoL (s : List UInt8) : Nat → Nat → List UInt8 → Option (List UInt8 × Nat)
  | 0, _, _ => none
  | f + 1, a, acc => if s.length ≤ a then none else
      if pre s a [39, 39] then quoL s f (a + 2) (acc ++ [39])
      else if pre s a [39] then some (acc, a + 1)
      else quoL s f (a + 1) (acc ++ [s.getD a 0])
def quoF (s : List UInt8) (a : Nat) : Option (List UInt8 × Nat) := if pre s a [39] then some ([39], a + 1) else quoL s (s.length + 1 - a) a []
def quoP (s : List UInt8) (ver : Nat) (r : Option (List UInt8 × Nat)) (ae : AEnd) (O : AHeap) : Prop := match r with
  | some (t, b) => ae = .ret (.str t) ∧ O = [some (rdr ver s b)]
  | none => ae = .panic (faultV s.length) ∧ O = [some (rdr ver s s.length)]
theorem quoted_does (s : List UInt8) (a : Nat) (ha : a ≤ s.length) (hs : s.length < 1000000) (ver : Nat) :
    Does Tryz.prog G 300 [.ptr 0 ver 0 0] [some (rdr ver s a)] (quoP s ver (quoF s a)) := by
  refine Does.body tab Tryz.func300 rfl rfl ?_
  refine gos ?_
  cases h1 : pre s a [39] with
  | true =>
    refine CallW.meth 0 (take_yes 1 rfl h1 (pre_le h1 (by simp)) (by omega) _) rfl rfl rfl rfl rfl rfl ?_
    refine gos ?_
    refine RetW.plain (by simp) ?_
    simp [quoF, h1, quoP]
  | false =>
    refine CallW.meth 0 (take_no h1 ha _) rfl rfl rfl rfl rfl rfl ?_
    refine gos ?_
    intro v1
    refine gos ?_
    intro v2
    refine gos ?_
    refine AC.loopF tab (fun n e h => ∃ b acc rv ad, s.length < n + b ∧ b ≤ s.length ∧ acc.length ≤ b ∧ quoF s a = quoL s n b acc ∧ Self 2 v2 ad ∧ e = [.ptr 0 ver 0 0, .any, .str [], .ptr 2 v2 0 0] ++ List.replicate 40 .any ∧
      h = [some (rdr ver s b), some ⟨rv, 5, 1, byteEs' acc⟩, some (bldO 256 v2 ad (.sl 1 rv))]) (s.length + 1 - a) ⟨_, fgts, a, [], v1, .nilp, by omega, ha, by simp, by simp [quoF, h1], .nil, rfl, rfl⟩ ?_
    rintro n e h ⟨b, acc, rv, ad, hn, hb, hacc, hq, had, rfl, rfl⟩
    obtain ⟨n, rfl⟩ : ∃ m, n = m + 1 := ⟨n - 1, by omega⟩
    simp only [quoL] at hq
    refine DrawW.L ?_
    refine gos ?_
    refine CmpW.split (fun hc => ?_) (fun hc => ?_)
    · have hbe : b = s.length := by have : (b : Int) = s.length := by simpa using hc
                                    omega
      subst hbe
      rw [if_pos (Nat.le_refl _)] at hq
      refine gos ?_
      refine CallW.of1 0 (fail_does s s.length ver) rfl rfl rfl rfl ?_
      rintro ae O ⟨rfl, rfl⟩
      refine ⟨_, rfl, rfl, rfl, ?_⟩
      refine gos ?_
      refine ⟨by simp, ?_⟩
      rw [hq]
      exact ⟨rfl, rfl⟩
    · have hbl : b < s.length := by
        have : ¬ (b : Int) = s.length := by simpa using hc
        omega
      rw [if_neg (by omega)] at hq
      refine gos ?_
      cases h2 : pre s b [39, 39] with
      | true =>
        have hle := pre_le h2 (by simp)
        simp only [List.length_cons, List.length_nil] at hle
        rw [if_pos h2] at hq
        refine CallW.meth 0 (take_yes 2 rfl h2 hle (by omega) _) rfl rfl rfl rfl rfl rfl ?_
        refine gos ?_
        refine CallW.bldW (i := 2) (j := 1) (by decide) had rfl rfl (fun a' h => WriteByte_does acc h 39 (by omega)) rfl rfl (fun rv' => ?_)
        refine gos ?_
        refine ⟨n, _, by omega, fgts, b + 2, acc ++ [39], rv', _, by omega, by omega, by simp; omega, hq, .at_, rfl, rfl⟩
      | false =>
        rw [if_neg (by simp [h2])] at hq
        refine CallW.meth 0 (take_no h2 hb _) rfl rfl rfl rfl rfl rfl ?_
        refine gos ?_
        cases h3 : pre s b [39] with
        | true =>
          have hle := pre_le h3 (by simp)
          simp only [List.length_cons, List.length_nil] at hle
          rw [if_pos h3] at hq
          refine CallW.meth 0 (take_yes 1 rfl h3 hle (by omega) _) rfl rfl rfl rfl rfl rfl ?_
          refine gos ?_
          refine CallW.bldS (i := 2) (j := 1) (by decide) had rfl rfl (fun a' h => String_bld acc h) rfl rfl ?_
          refine gos ?_
          refine RetW.plain (by simp) ?_
          rw [hq]
          exact ⟨rfl, rfl⟩
        | false =>
          rw [if_neg (by simp [h3])] at hq
          refine CallW.meth 0 (take_no h3 hb _) rfl rfl rfl rfl rfl rfl ?_
          refine gos ?_
          refine DrawW.L ?_
          refine gos ?_
          refine And.intro (by omega) ?_
          refine Exists.intro (s.getD b 0) (And.intro (by simp [List.getD, hbl]) ?_)
          refine gos ?_
          refine CallW.bldW (i := 2) (j := 1) (by decide) had rfl rfl (fun a' h => WriteByte_does acc h _ (by omega)) rfl rfl (fun rv' => ?_)
          refine gos ?_
          refine ⟨n, _, by omega, fgts, b + 1, _, rv', _, by omega, by omega, by simp; omega, hq, .at_, rfl, rfl⟩
def special : List UInt8 := [35, 48, 49, 50, 51, 52, 53, 54, 55, 56, 57, 44, 46, 59, 64, 42, 45, 43, 37, 39]
theorem dec_le (s : List UInt8) : (dec s).2 ≤ s.length := by
  unfold dec Lib.decodeGo
  split
  · exact Nat.zero_le _
  · rename_i h
    exact Lib.width_le ⟨⟨s⟩⟩ (Nat.pos_of_ne_zero h)
theorem dec_pos (s : List UInt8) (h : s ≠ []) : 1 ≤ (dec s).2 := by
  have hp : 0 < s.length := List.length_pos_iff.2 h
  have : ¬ (⟨⟨s⟩⟩ : ByteArray).size = 0 := by rw [str_size]; omega
  unfold dec Lib.decodeGo
  rw [if_neg this]
  exact Lib.decode_width_pos _ 0 (by rw [str_size]; exact hp)
def litF (s : List UInt8) (a : Nat) : Option ((List UInt8 × Bool) × Nat) :=
  if pre s a [39] then (quoF s (a + 1)).map fun r => ((r.1, true), r.2)
  else if s.length ≤ a ∨ 0 ≤ Lib.indexByte special (s.getD a 0) then some (([], false), a)
  else some ((((s.take (a + (dec (s.drop a)).2)).drop a), true), a + (dec (s.drop a)).2)
def litP (s : List UInt8) (ver : Nat) (r : Option ((List UInt8 × Bool) × Nat)) (ae : AEnd) (O : AHeap) : Prop := match r with
  | some (t, b) => ae = .ret (.tuple [.str t.1, .bool t.2]) ∧ O = [some (rdr ver s b)]
  | none => ae = .panic (faultV s.length) ∧ O = [some (rdr ver s s.length)]
theorem literal_does {m : Int} (s : List UInt8) (a : Nat) (ha : a ≤ s.length) (hs : s.length < 1000000) (ver : Nat) :
    Does Tryz.prog (GL m) 277 [.ptr 0 ver 0 0] [some (rdr ver s a)] (litP s ver (litF s a)) := by
  refine Does.body tab Tryz.func277 rfl rfl ?_
  refine gos ?_
  cases h1 : pre s a [39] with
  | true =>
    have hle := pre_le h1 (by simp)
    simp only [List.length_cons, List.length_nil] at hle
    refine CallW.meth 0 (take_yes 1 rfl h1 hle (by omega) _) rfl rfl rfl rfl rfl rfl ?_
    refine gos ?_
    refine CallW.of1 0 (quoted_does s (a + 1) (by omega) hs ver) rfl rfl rfl rfl ?_
    intro ae O hq
    have hl : litF s a = (quoF s (a + 1)).map fun r => ((r.1, true), r.2) := by simp [litF, h1]
    rw [hl]
    cases h2 : quoF s (a + 1) with
    | none =>
      rw [h2] at hq
      obtain ⟨rfl, rfl⟩ := hq
      refine ⟨_, rfl, rfl, rfl, ?_⟩
      refine gos ?_
      exact ⟨by simp, rfl, rfl⟩
    | some r =>
      rw [h2] at hq
      obtain ⟨rfl, rfl⟩ := hq
      refine ⟨_, rfl, rfl, rfl, ?_⟩
      refine gos ?_
      refine RetW.plain (by simp) ?_
      exact ⟨rfl, rfl⟩
  | false =>
    refine CallW.meth 0 (take_no h1 ha _) rfl rfl rfl rfl rfl rfl ?_
    refine gos ?_
    refine DrawW.L ?_
    refine gos ?_
    by_cases hbe : a = s.length
    · subst hbe
      refine CmpW.t (by simp) ?_
      refine gos ?_
      refine RetW.plain (by simp) ?_
      simp [litF, h1, litP]
    · have hal : a < s.length := by omega
      have hget : s[(a : Int).toNat]? = some (s.getD a 0) := by simp [List.getD, hal]
      refine CmpW.f (by simp; omega) ?_
      refine gos ?_
      refine And.intro (by omega) ?_
      refine Exists.intro (s.getD a 0) (And.intro hget ?_)
      refine gos ?_
      refine CallW.pure (IndexByte_does _ _ _) rfl rfl ?_
      refine gos ?_
      have hc : ((s.getD a 0).toNat : Int).toNat.toUInt8 = s.getD a 0 := by simp
      rw [hc]
      change binIntW BinOp.geq IntKind.i64 (Lib.indexByte special (s.getD a 0)) 0 _
      by_cases hsp : 0 ≤ Lib.indexByte special (s.getD a 0)
      · refine CmpW.t (by simpa using hsp) ?_
        refine gos ?_
        refine RetW.plain (by simp) ?_
        have : litF s a = some (([], false), a) := by
          unfold litF
          rw [if_neg (by simp [h1]), if_pos (.inr hsp)]
        rw [this]
        exact ⟨rfl, rfl⟩
      · refine CmpW.f (by simpa using hsp) ?_
        refine gos ?_
        refine DrawW.L ?_
        refine gos ?_
        refine And.intro (And.intro (by omega) (by omega)) ?_
        refine CallW.pure (Decode_does m _) rfl rfl ?_
        have hd : s.drop (a : Int).toNat = s.drop a := by simp
        rw [hd]
        have hn1 := dec_le (s.drop a)
        rw [List.length_drop] at hn1
        have hl : litF s a = some ((((s.take (a + (dec (s.drop a)).2)).drop a), true), a + (dec (s.drop a)).2) := by
          unfold litF
          rw [if_neg (by simp [h1]), if_neg (by simp only [not_or]; exact ⟨by omega, hsp⟩)]
        rw [hl]
        generalize (dec (s.drop a)) = d at *
        obtain ⟨r, n⟩ := d
        dsimp only at *
        refine gos ?_
        have e1 : (a : Int) + (n : Nat) = ((a + n : Nat) : Int) := by omega
        rw [e1]
        refine DrawW.L ?_
        refine gos ?_
        have e2 : ((a + n : Nat) : Int) - (n : Nat) = (a : Int) := by omega
        rw [e2]
        refine gos ?_
        refine And.intro ⟨by omega, by omega, by omega⟩ ?_
        refine gos ?_
        refine RetW.plain (by simp) ?_
        exact ⟨by rw [Int.toNat_natCast, Int.toNat_natCast], rfl⟩
end Go.Proofs.YtjjppmbojcgdgaaGreatDoor

namespace Go.Proofs.YtjjppmbojcgdgaaGreatDoor
open Go Go.Abs
attribute [local irreducible] DrawW CallW RetW AC Does CmpW
set_option maxRecDepth 100000
theorem curN_le (s : List UInt8) : ∀ f a, a ≤ s.length → a + 2 * curN s f a ≤ s.length
  | 0, a, h => by simp [curN]; exact h
  | f + 1, a, h => by
    unfold curN
    split
    · rename_i hp
      have h1 := pre_le hp (by simp)
      simp only [List.length_cons, List.length_nil] at h1
      have := curN_le s f (a + 2) (by omega)
      omega
    · simpa using h
theorem signF_t {s : List UInt8} {a : Nat} (ha : a ≤ s.length) (h : (signF s a).2.1 = true) : a < (signF s a).2.2 ∧ (signF s a).2.2 ≤ s.length ∧ (signF s a).1.text = [] := by
  unfold signF at *
  split
  · rename_i hp; have h1 := pre_le hp (by simp); simp only [List.length_cons, List.length_nil] at h1; exact ⟨by simp, by omega, rfl⟩
  split
  · rename_i hp; have h1 := pre_le hp (by simp); simp only [List.length_cons, List.length_nil] at h1; exact ⟨by simp, by omega, rfl⟩
  split
  · rename_i hp; have h1 := pre_le hp (by simp); simp only [List.length_cons, List.length_nil] at h1; exact ⟨by simp, by omega, rfl⟩
  split
  · rename_i hp; have h1 := pre_le hp (by simp); simp only [List.length_cons, List.length_nil] at h1; exact ⟨by simp, by omega, rfl⟩
  rename_i h1 h2 h3 h4
  simp only [h1, h2, h3, h4, if_false, Bool.false_eq_true] at h
  have := curN_le s s.length a ha
  simp at h
  exact ⟨by simp; omega, this, rfl⟩
theorem signF_f {s : List UInt8} {a : Nat} (h : (signF s a).2.1 = false) : (signF s a).2.2 = a := by
  unfold signF at *
  split at h; · simp at h
  split at h; · simp at h
  split at h; · simp at h
  split at h; · simp at h
  rename_i h1 h2 h3 h4
  simp only [h1, h2, h3, h4, if_false, Bool.false_eq_true]
  simp at h
  omega
theorem quoL_le (s : List UInt8) : ∀ f a acc t b, a ≤ s.length → quoL s f a acc = some (t, b) → a < b ∧ b ≤ s.length ∧ t.length + a < acc.length + b
  | 0, a, acc, t, b, _, h => by simp [quoL] at h
  | f + 1, a, acc, t, b, ha, h => by
    unfold quoL at h
    split at h
    · cases h
    split at h
    · rename_i hp
      have h1 := pre_le hp (by simp)
      simp only [List.length_cons, List.length_nil] at h1
      have := quoL_le s f (a + 2) _ t b (by omega) h
      simp at this; omega
    split at h
    · rename_i hp
      have h1 := pre_le hp (by simp)
      simp only [List.length_cons, List.length_nil] at h1
      simp at h
      obtain ⟨rfl, rfl⟩ := h
      omega
    · have := quoL_le s f (a + 1) _ t b (by omega) h
      simp at this; omega
theorem quoF_le {s : List UInt8} {a : Nat} {t : List UInt8} {b : Nat} (ha : a ≤ s.length) (h : quoF s a = some (t, b)) : a < b ∧ b ≤ s.length ∧ t.length + a ≤ b := by
  unfold quoF at h
  split at h
  · rename_i hp
    have h1 := pre_le hp (by simp)
    simp only [List.length_cons, List.length_nil] at h1
    simp at h
    obtain ⟨rfl, rfl⟩ := h
    simp; omega
  · have := quoL_le s _ a [] t b ha h
    simp at this; omega
theorem litF_t {s : List UInt8} {a : Nat} {t : List UInt8} {b : Nat} (ha : a ≤ s.length) (h : litF s a = some ((t, true), b)) : a < b ∧ b ≤ s.length ∧ t.length + a ≤ b := by
  unfold litF at h
  split at h
  · rename_i hp
    have h1 := pre_le hp (by simp)
    simp only [List.length_cons, List.length_nil] at h1
    cases h2 : quoF s (a + 1) with
    | none => rw [h2] at h; simp at h
    | some r =>
      rw [h2] at h
      simp at h
      obtain ⟨rfl, rfl⟩ := h
      have := quoF_le (t := r.1) (b := r.2) (by omega) h2
      omega
  split at h
  · simp at h
  · rename_i hp
    simp only [not_or] at hp
    simp at h
    obtain ⟨rfl, rfl⟩ := h
    have h1 := dec_le (s.drop a)
    have h2 := dec_pos (s.drop a) (by intro e; have := congrArg List.length e; simp at this; omega)
    simp only [List.length_drop] at h1
    simp; omega
theorem litF_f {s : List UInt8} {a : Nat} {t : List UInt8} {b : Nat} (h : litF s a = some ((t, false), b)) : b = a := by
  unfold litF at h
  split at h
  · cases h2 : quoF s (a + 1) with
    | none => rw [h2] at h; simp at h
    | some r => rw [h2] at h; simp at h
  split at h
  · simp at h; exact h.2.symm
  · simp at h
def more (out : List Piece) (t : List UInt8) : List Piece := match out.getLast? with
  | some p => if p.kind = 0 then out.dropLast ++ [{ p with text := p.text ++ t }] else out ++ [⟨0, t, 0⟩]
  | none => [⟨0, t, 0⟩]
def affL (s : List UInt8) : Nat → Nat → List Piece → Option (List Piece × Nat)
  | 0, _, _ => none
  | f + 1, a, out => if (signF s a).2.1 then affL s f (signF s a).2.2 (out ++ [(signF s a).1]) else match litF s a with
    | none => none
    | some ((t, ok), b) => if !ok then some (out, b) else if t = [] then affL s f b out else affL s f b (more out t)
def affF (s : List UInt8) (a : Nat) : Option (List Piece × Nat) := affL s (s.length + 1 - a) a []
def affP (s : List UInt8) (ver : Nat) (r : Option (List Piece × Nat)) (ae : AEnd) (O : AHeap) : Prop := match r with
  | some (ps, b) => ae = .ret (.fsl (ps.map encP)) ∧ O = [some (rdr ver s b)]
  | none => ae = .panic (faultV s.length) ∧ O = [some (rdr ver s s.length)]
theorem encs_closed : ∀ out : List Piece, closedLL (out.map encP) = true
  | [] => rfl
  | p :: out => by
    have := encs_closed out
    simp [closedLL, encP, closedL, closed, this]
theorem snoc_cases {α : Type} (l : List α) : l = [] ∨ ∃ i p, l = i ++ [p] := by
  rcases List.eq_nil_or_concat l with h | ⟨i, p, h⟩
  · exact .inl h
  · exact .inr ⟨i, p, by rw [h]; simp⟩
theorem affix_does {m : Int} (s : List UInt8) (a : Nat) (ha : a ≤ s.length) (hs : s.length < 1000000) (ver : Nat) :
    Does Tryz.prog (GL m) 244 [.ptr 0 ver 0 0] [some (rdr ver s a)] (affP s ver (affF s a)) := by
  refine Does.body tab Tryz.func244 rfl rfl ?_
  refine gos ?_
  refine AC.own 3 133 3 rfl (by decide) fun v1 => ?_
  refine AC.loopC tab (fun n e h => ∃ b out rv, s.length < n + b ∧ b ≤ s.length ∧ out.length ≤ b ∧ (∀ p ∈ out, p.text.length ≤ b) ∧ affF s a = affL s n b out ∧ e = [.ptr 0 ver 0 0, .any, .any, .sl 1 rv] ++ List.replicate 56 .any ∧
    h = [some (rdr ver s b), some ⟨rv, 133, 3, out.map encP⟩]) (s.length + 1 - a) ⟨_, fgts, a, [], v1, by omega, ha, by simp, by simp, rfl, rfl, rfl⟩ ?_
  rintro n e h ⟨b, out, rv, hn, hb, hol, hot, hq, rfl, rfl⟩
  obtain ⟨n, rfl⟩ : ∃ m, n = m + 1 := ⟨n - 1, by omega⟩
  simp only [affL] at hq
  refine gos ?_
  refine CallW.meth 0 (sign_does s b hb (by omega) ver) rfl rfl rfl rfl rfl rfl ?_
  refine gos ?_
  intro v2
  refine gos ?_
  cases hsg : (signF s b).2.1 with
  | true =>
    obtain ⟨q1, q2, q3⟩ := signF_t hb hsg
    rw [if_pos hsg] at hq
    refine gos ?_
    intro v3
    refine gos ?_
    refine And.intro (And.intro (fun y hy => by rcases List.mem_singleton.1 hy with rfl; rfl) (fun y hy => by rcases List.mem_singleton.1 hy with rfl; rfl)) ?_; refine And.intro (And.intro rfl trivial) ?_
    refine gos ?_
    refine And.intro (by simp [maxLen, ti133]; omega) ?_
    intro v4
    refine gos ?_
    refine ⟨n, _, 2, by omega, fgts, (signF s b).2.2, out ++ [(signF s b).1], v4, by omega, q2, by simp; omega, ?_, hq, rfl, ?_⟩
    · intro p hp
      rcases List.mem_append.1 hp with hp | hp
      · have := hot p hp; omega
      · rcases List.mem_singleton.1 hp with rfl
        rw [q3]; simp
    · rw [List.map_append]; rfl
  | false =>
    have q1 := signF_f hsg
    rw [if_neg (by simp [hsg])] at hq
    rw [q1]
    refine gos ?_
    refine CallW.of1 0 (literal_does s b hb hs ver) rfl rfl rfl rfl ?_
    intro ae O hlit
    cases hl : litF s b with
    | none =>
      rw [hl] at hq hlit
      obtain ⟨rfl, rfl⟩ := hlit
      refine ⟨_, rfl, rfl, rfl, ?_⟩
      refine gos ?_
      refine ⟨by simp, ?_⟩
      rw [hq]
      exact ⟨rfl, rfl⟩
    | some r =>
      obtain ⟨⟨t, ok⟩, b'⟩ := r
      rw [hl] at hq hlit
      obtain ⟨rfl, rfl⟩ := hlit
      refine ⟨_, rfl, rfl, rfl, ?_⟩
      refine gos ?_
      cases ok with
      | false =>
        have q2 := litF_f hl
        subst q2
        simp only [Bool.not_false, if_true] at hq
        refine gos ?_
        refine RetW.wk (by simp) ?_ (Wk.row (k := 0) (i := 1) rfl rfl rfl ?_) ?_
        · rfl
        · exact encs_closed out
        · rw [hq]; exact ⟨rfl, rfl⟩
      | true =>
        obtain ⟨r1, r2, r3⟩ := litF_t hb hl
        simp only [Bool.not_true, Bool.false_eq_true, if_false] at hq
        refine gos ?_
        by_cases ht : t = []
        · rw [if_pos ht] at hq
          subst ht
          refine CmpW.t rfl ?_
          refine gos ?_
          refine ⟨n, _, 2, by omega, fgts, b', out, rv, by omega, r2, by omega, fun p hp => by have := hot p hp; omega, hq, rfl, rfl⟩
        · rw [if_neg ht] at hq
          refine CmpW.f (by simpa using ht) ?_
          refine gos ?_
          rcases snoc_cases out with rfl | ⟨init, p, rfl⟩
          · refine CmpW.f (by rfl) ?_
            refine gos ?_
            intro v3
            refine gos ?_
            refine And.intro (And.intro (fun y hy => by rcases List.mem_singleton.1 hy with rfl; rfl) (fun y hy => by rcases List.mem_singleton.1 hy with rfl; rfl)) ?_; refine And.intro (And.intro rfl trivial) ?_
            refine gos ?_
            intro v4
            refine gos ?_
            refine ⟨n, _, 2, by omega, fgts, b', [⟨0, t, 0⟩], v4, by omega, r2, by simp; omega, ?_, hq, rfl, rfl⟩
            intro p hp
            rcases List.mem_singleton.1 hp with rfl
            show t.length ≤ b'
            omega
          · have hol' : init.length + 1 ≤ b := by simpa using hol
            have hpt : p.text.length ≤ b := hot p (by simp)
            refine CmpW.t (by simp) ?_
            refine gos ?_
            refine And.intro (by simp; omega) ?_
            refine gos ?_
            refine Exists.intro (encP p) (And.intro (by simp) ?_)
            refine gos ?_
            by_cases hk : p.kind = 0
            · have hm : more (init ++ [p]) t = init ++ [{ p with text := p.text ++ t }] := by simp [more, hk]
              rw [hm] at hq
              refine CmpW.t (by simp [hk]) ?_
              refine gos ?_
              refine And.intro (by simp; omega) ?_
              refine gos ?_
              refine Exists.intro (encP p) (And.intro (by simp) ?_)
              refine gos ?_
              refine And.intro (by simp; omega) ?_
              refine gos ?_
              refine And.intro (by simp; omega) ?_
              refine gos ?_
              refine Exists.intro (encP p) (And.intro (by simp) ?_)
              refine gos ?_
              refine ⟨n, _, 2, by omega, fgts, b', _, rv, by omega, r2, by simp; omega, ?_, hq, rfl, ?_⟩
              · intro y hy
                rcases List.mem_append.1 hy with hy | hy
                · have := hot y (by simp [hy]); omega
                · rcases List.mem_singleton.1 hy with rfl
                  simp; omega
              · simp [encP, rdr]
            · have hm : more (init ++ [p]) t = init ++ [p] ++ [⟨0, t, 0⟩] := by simp [more, hk]
              rw [hm] at hq
              refine CmpW.f (by simpa using hk) ?_
              refine gos ?_
              intro v3
              refine gos ?_
              refine And.intro (And.intro (fun y hy => by rcases List.mem_singleton.1 hy with rfl; rfl) (fun y hy => by rcases List.mem_singleton.1 hy with rfl; rfl)) ?_; refine And.intro (And.intro rfl trivial) ?_
              refine gos ?_
              refine And.intro (by simp [maxLen, ti133]; omega) ?_
              intro v4
              refine gos ?_
              refine ⟨n, _, 2, by omega, fgts, b', _, v4, by omega, r2, by simp; omega, ?_, hq, rfl, ?_⟩
              · intro y hy
                rcases List.mem_append.1 hy with hy | hy
                · have := hot y hy; omega
                · rcases List.mem_singleton.1 hy with rfl
                  show t.length ≤ b'
                  omega
              · simp [encP, rdr, ti133]
end Go.Proofs.YtjjppmbojcgdgaaGreatDoor
