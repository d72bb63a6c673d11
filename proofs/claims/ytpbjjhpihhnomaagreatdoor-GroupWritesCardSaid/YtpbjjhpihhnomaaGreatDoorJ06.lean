/- Where a text is not UTF-8: walked, for a range over a text makes an iterator. -/
import Derived.Test.YtpbjjhpihhnomaaGreatDoorJ01
import Derived.Lib.QuoteLoop
import Derived.Lib.OthersKept
import Derived.Deep.LoopGhost
import Derived.Lib.TrimU
import Derived.Laws.Strings3
set_option linter.unusedVariables false
set_option linter.unusedSimpArgs false
set_option maxRecDepth 100000
set_option maxHeartbeats 4000000

namespace Go.Proofs.YtpbjjhpihhnomaaGreatDoor
open Go Go.Abs
attribute [local irreducible] DrawW CallW RetW AC Does CmpW
set_option maxRecDepth 100000
variable {G : Globs}
def rdr (ver : Nat) (s : List UInt8) (a : Nat) : AObj := ⟨ver, 309, 2, [[.str s, .int .i64 a]]⟩
def pre (s : List UInt8) (a : Nat) (t : List UInt8) : Bool := t.isPrefixOf (s.drop a)
theorem pre_le {s t : List UInt8} {a : Nat} (h : pre s a t = true) (ht : t ≠ []) : a + t.length ≤ s.length := by
  have h1 := (List.isPrefixOf_iff_prefix.1 h).length_le
  rw [List.length_drop] at h1
  have : 0 < t.length := List.length_pos_iff.2 ht
  omega
theorem take_yes {s t : List UInt8} {a : Nat} (n : Nat) (hn : t.length = n) (h : pre s a t = true) (ha : a + n ≤ s.length) (hs : s.length < 4294967296) (ver : Nat) :
    Does Tryz.prog G 238 [.ptr 0 ver 0 0, .str t] [some (rdr ver s a)] fun ae O => ae = .ret (.bool true) ∧ O = [some (rdr ver s (a + n))] := by
  subst hn
  refine Does.body tab Tryz.func238 rfl rfl ?_
  refine DrawW.L ?_
  refine gos ?_
  refine And.intro (And.intro (by omega) (by omega)) ?_
  refine CallW.pure (HasPrefix_does G _ _) rfl rfl ?_
  have h' : t.isPrefixOf (s.drop (a : Int).toNat) = true := h
  rw [h']
  refine gos ?_
  refine RetW.plain (Nat.le_refl _) ?_
  exact ⟨rfl, rfl⟩
theorem take_no {s t : List UInt8} {a : Nat} (h : pre s a t = false) (ha : a ≤ s.length) (ver : Nat) :
    Does Tryz.prog G 238 [.ptr 0 ver 0 0, .str t] [some (rdr ver s a)] fun ae O => ae = .ret (.bool false) ∧ O = [some (rdr ver s a)] := by
  refine Does.body tab Tryz.func238 rfl rfl ?_
  refine DrawW.L ?_
  refine gos ?_
  refine And.intro (And.intro (by omega) (by omega)) ?_
  refine CallW.pure (HasPrefix_does G _ _) rfl rfl ?_
  have h' : t.isPrefixOf (s.drop (a : Int).toNat) = false := h
  rw [h']
  refine gos ?_
  refine RetW.plain (Nat.le_refl _) ?_
  exact ⟨rfl, rfl⟩
def faultV (a : Nat) : AV := .iface 305 (.agg [.int .i64 a])
theorem fail_does (s : List UInt8) (a ver : Nat) :
    Does Tryz.prog G 239 [.ptr 0 ver 0 0] [some (rdr ver s a)] fun ae O => ae = .panic (faultV a) ∧ O = [some (rdr ver s a)] := by
  refine Does.body tab Tryz.func239 rfl rfl ?_
  refine gos ?_
  exact ⟨Nat.le_refl _, rfl, rfl⟩
structure Piece where
  kind : Int
  text : List UInt8
  n : Int
def encP (p : Piece) : List AV := [.int .i64 p.kind, .str p.text, .int .i64 p.n]
def curN (s : List UInt8) : Nat → Nat → Nat
  | 0, _ => 0
  | f + 1, a => if pre s a [194, 164] then curN s f (a + 2) + 1 else 0
def signF (s : List UInt8) (a : Nat) : Piece × Bool × Nat :=
  if pre s a [45] then (⟨1, [], 0⟩, true, a + 1)
  else if pre s a [43] then (⟨2, [], 0⟩, true, a + 1)
  else if pre s a [37] then (⟨3, [], 0⟩, true, a + 1)
  else if pre s a [226, 128, 176] then (⟨4, [], 0⟩, true, a + 3)
  else (⟨5, [], curN s s.length a⟩, decide (0 < curN s s.length a), a + 2 * curN s s.length a)
theorem sign_does (s : List UInt8) (a : Nat) (ha : a ≤ s.length) (hs : s.length < 4294967296) (ver : Nat) :
    Does Tryz.prog G 266 [.ptr 0 ver 0 0] [some (rdr ver s a)] fun ae O => ae = .ret (.tuple [.agg (encP (signF s a).1), .bool (signF s a).2.1]) ∧ O = [some (rdr ver s (signF s a).2.2)] := by
  refine Does.body tab Tryz.func266 rfl rfl ?_
  refine gos ?_
  intro v2
  refine gos ?_
  refine AC.rounds tab 6 ?_
  refine gos ?_
  cases h1 : pre s a [45] with
  | true =>
    refine CallW.meth 0 (take_yes 1 rfl h1 (pre_le h1 (by simp)) hs _) rfl rfl rfl rfl rfl rfl ?_
    refine gos ?_
    refine RetW.plain (by simp) ?_
    simp [signF, h1, encP]
  | false =>
    refine CallW.meth 0 (take_no h1 ha _) rfl rfl rfl rfl rfl rfl ?_
    refine gos ?_
    cases h2 : pre s a [43] with
    | true =>
      refine CallW.meth 0 (take_yes 1 rfl h2 (pre_le h2 (by simp)) hs _) rfl rfl rfl rfl rfl rfl ?_
      refine gos ?_
      refine RetW.plain (by simp) ?_
      simp [signF, h1, h2, encP]
    | false =>
      refine CallW.meth 0 (take_no h2 ha _) rfl rfl rfl rfl rfl rfl ?_
      refine gos ?_
      cases h3 : pre s a [37] with
      | true =>
        refine CallW.meth 0 (take_yes 1 rfl h3 (pre_le h3 (by simp)) hs _) rfl rfl rfl rfl rfl rfl ?_
        refine gos ?_
        refine RetW.plain (by simp) ?_
        simp [signF, h1, h2, h3, encP]
      | false =>
        refine CallW.meth 0 (take_no h3 ha _) rfl rfl rfl rfl rfl rfl ?_
        refine gos ?_
        cases h4 : pre s a [226, 128, 176] with
        | true =>
          refine CallW.meth 0 (take_yes 3 rfl h4 (pre_le h4 (by simp)) hs _) rfl rfl rfl rfl rfl rfl ?_
          refine gos ?_
          refine RetW.plain (by simp) ?_
          simp [signF, h1, h2, h3, h4, encP]
        | false =>
          refine CallW.meth 0 (take_no h4 ha _) rfl rfl rfl rfl rfl rfl ?_
          refine gos ?_
          refine AC.loopF tab (fun n e h => ∃ k, n = s.length - k ∧ a + 2 * k ≤ s.length ∧ curN s s.length a = k + curN s (s.length - k) (a + 2 * k) ∧ e = [.ptr 0 ver 0 0, .any, .ptr 1 v2 0 0, .bool false, .any, .any, .int .i64 k] ++ List.replicate 23 .any ∧
              h = [some (rdr ver s (a + 2 * k)), some ⟨v2, 166, 3, [[.int .i64 0, .str [], .int .i64 0]]⟩]) s.length ⟨_, fgts, 0, by simp, by omega, by simp, rfl, rfl⟩ ?_
          rintro n e h ⟨k, rfl, hk, hc, rfl, rfl⟩
          cases hp : pre s (a + 2 * k) [194, 164] with
          | true =>
            have hle := pre_le hp (by simp)
            simp only [List.length_cons, List.length_nil] at hle
            refine CallW.meth 0 (take_yes 2 rfl hp (by omega) hs _) rfl rfl rfl rfl rfl rfl ?_
            refine gos ?_
            have e1 : (k : Int) + 1 = ((k + 1 : Nat) : Int) := by omega
            rw [e1]
            refine ⟨_, _, ?_, fgts, k + 1, rfl, by omega, ?_, rfl, rfl⟩
            · omega
            · rw [hc]
              obtain ⟨f, hf⟩ : ∃ f, s.length - k = f + 1 := ⟨s.length - k - 1, by omega⟩
              rw [hf, show s.length - (k + 1) = f by omega]
              simp only [curN, hp, if_true]
              rw [show a + 2 * (k + 1) = a + 2 * k + 2 by omega]; omega
          | false =>
            refine CallW.meth 0 (take_no hp hk _) rfl rfl rfl rfl rfl rfl ?_
            refine gos ?_
            refine CmpW.s ?_
            refine gos ?_
            refine RetW.plain (by simp) ?_
            have h0 : curN s (s.length - k) (a + 2 * k) = 0 := by
              cases s.length - k with
              | zero => rfl
              | succ f => simp [curN, hp]
            rw [h0] at hc
            simp [signF, h1, h2, h3, h4, encP, hc]
end Go.Proofs.YtpbjjhpihhnomaaGreatDoor

namespace Go.Proofs.YtpbjjhpihhnomaaGreatDoor
open Go Go.Abs
attribute [local irreducible] DrawW CallW RetW AC Does CmpW
set_option maxRecDepth 100000
variable {G : Globs}
def quoL (s : List UInt8) : Nat → Nat → List UInt8 → Option (List UInt8 × Nat)
  | 0, _, _ => none
  | f + 1, a, acc => if s.length ≤ a then none else
      if pre s a [39, 39] then quoL s f (a + 2) (acc ++ [39])
      else if pre s a [39] then some (acc, a + 1)
      else quoL s f (a + 1) (acc ++ [s.getD a 0])
def quoF (s : List UInt8) (a : Nat) : Option (List UInt8 × Nat) := if pre s a [39] then some ([39], a + 1) else quoL s (s.length + 1 - a) a []
def quoP (s : List UInt8) (ver : Nat) (r : Option (List UInt8 × Nat)) (ae : AEnd) (O : AHeap) : Prop := match r with
  | some (t, b) => ae = .ret (.str t) ∧ O = [some (rdr ver s b)]
  | none => ae = .panic (faultV s.length) ∧ O = [some (rdr ver s s.length)]
theorem quoted_does (s : List UInt8) (a : Nat) (ha : a ≤ s.length) (hs : s.length < 1000000) (ver : Nat) :
    Does Tryz.prog G 287 [.ptr 0 ver 0 0] [some (rdr ver s a)] (quoP s ver (quoF s a)) := by
  refine Does.body tab Tryz.func287 rfl rfl ?_
  refine gos ?_
  cases h1 : pre s a [39] with
  | true =>
    refine CallW.meth 0 (take_yes 1 rfl h1 (pre_le h1 (by simp)) (by omega) _) rfl rfl rfl rfl rfl rfl ?_
    refine gos ?_
    refine RetW.plain (by simp) ?_
    simp [quoF, h1, quoP]
  | false =>
    refine CallW.meth 0 (take_no h1 ha _) rfl rfl rfl rfl rfl rfl ?_
    refine gos ?_
    intro v1
    refine gos ?_
    intro v2
    refine gos ?_
    refine AC.loopF tab (fun n e h => ∃ b acc rv ad, s.length < n + b ∧ b ≤ s.length ∧ acc.length ≤ b ∧ quoF s a = quoL s n b acc ∧ Self 2 v2 ad ∧ e = [.ptr 0 ver 0 0, .any, .str [], .ptr 2 v2 0 0] ++ List.replicate 40 .any ∧
      h = [some (rdr ver s b), some ⟨rv, 5, 1, byteEs' acc⟩, some (bldO 147 v2 ad (.sl 1 rv))]) (s.length + 1 - a) ⟨_, fgts, a, [], v1, .nilp, by omega, ha, by simp, by simp [quoF, h1], .nil, rfl, rfl⟩ ?_
    rintro n e h ⟨b, acc, rv, ad, hn, hb, hacc, hq, had, rfl, rfl⟩
    obtain ⟨n, rfl⟩ : ∃ m, n = m + 1 := ⟨n - 1, by omega⟩
    simp only [quoL] at hq
    refine DrawW.L ?_
    refine gos ?_
    refine CmpW.split (fun hc => ?_) (fun hc => ?_)
    · have hbe : b = s.length := by have : (b : Int) = s.length := by simpa using hc
                                    omega
      subst hbe
      rw [if_pos (Nat.le_refl _)] at hq
      refine gos ?_
      refine CallW.of1 0 (fail_does s s.length ver) rfl rfl rfl rfl ?_
      rintro ae O ⟨rfl, rfl⟩
      refine ⟨_, rfl, rfl, rfl, ?_⟩
      refine gos ?_
      refine ⟨by simp, ?_⟩
      rw [hq]
      exact ⟨rfl, rfl⟩
    · have hbl : b < s.length := by
        have : ¬ (b : Int) = s.length := by simpa using hc
        omega
      rw [if_neg (by omega)] at hq
      refine gos ?_
      cases h2 : pre s b [39, 39] with
      | true =>
        have hle := pre_le h2 (by simp)
        simp only [List.length_cons, List.length_nil] at hle
        rw [if_pos h2] at hq
        refine CallW.meth 0 (take_yes 2 rfl h2 hle (by omega) _) rfl rfl rfl rfl rfl rfl ?_
        refine gos ?_
        refine CallW.bldW (i := 2) (j := 1) (by decide) had rfl rfl (fun a' h => WriteByte_does acc h 39 (by omega)) rfl rfl (fun rv' => ?_)
        refine gos ?_
        refine ⟨n, _, by omega, fgts, b + 2, acc ++ [39], rv', _, by omega, by omega, by simp; omega, hq, .at_, rfl, rfl⟩
      | false =>
        rw [if_neg (by simp [h2])] at hq
        refine CallW.meth 0 (take_no h2 hb _) rfl rfl rfl rfl rfl rfl ?_
        refine gos ?_
        cases h3 : pre s b [39] with
        | true =>
          have hle := pre_le h3 (by simp)
          simp only [List.length_cons, List.length_nil] at hle
          rw [if_pos h3] at hq
          refine CallW.meth 0 (take_yes 1 rfl h3 hle (by omega) _) rfl rfl rfl rfl rfl rfl ?_
          refine gos ?_
          refine CallW.bldS (i := 2) (j := 1) (by decide) had rfl rfl (fun a' h => String_bld acc h) rfl rfl ?_
          refine gos ?_
          refine RetW.plain (by simp) ?_
          rw [hq]
          exact ⟨rfl, rfl⟩
        | false =>
          rw [if_neg (by simp [h3])] at hq
          refine CallW.meth 0 (take_no h3 hb _) rfl rfl rfl rfl rfl rfl ?_
          refine gos ?_
          refine DrawW.L ?_
          refine gos ?_
          refine And.intro (by omega) ?_
          refine Exists.intro (s.getD b 0) (And.intro (by simp [List.getD, hbl]) ?_)
          refine gos ?_
          refine CallW.bldW (i := 2) (j := 1) (by decide) had rfl rfl (fun a' h => WriteByte_does acc h _ (by omega)) rfl rfl (fun rv' => ?_)
          refine gos ?_
          refine ⟨n, _, by omega, fgts, b + 1, _, rv', _, by omega, by omega, by simp; omega, hq, .at_, rfl, rfl⟩
def special : List UInt8 := [35, 48, 49, 50, 51, 52, 53, 54, 55, 56, 57, 44, 46, 59, 64, 42, 45, 43, 37, 39]
theorem dec_le (s : List UInt8) : (dec s).2 ≤ s.length := by
  unfold dec Lib.decodeGo
  split
  · exact Nat.zero_le _
  · rename_i h
    exact Lib.width_le ⟨⟨s⟩⟩ (Nat.pos_of_ne_zero h)
theorem dec_pos (s : List UInt8) (h : s ≠ []) : 1 ≤ (dec s).2 := by
  have hp : 0 < s.length := List.length_pos_iff.2 h
  have : ¬ (⟨⟨s⟩⟩ : ByteArray).size = 0 := by rw [str_size]; omega
  unfold dec Lib.decodeGo
  rw [if_neg this]
  exact Lib.decode_width_pos _ 0 (by rw [str_size]; exact hp)
def litF (s : List UInt8) (a : Nat) : Option ((List UInt8 × Bool) × Nat) :=
  if pre s a [39] then (quoF s (a + 1)).map fun r => ((r.1, true), r.2)
  else if s.length ≤ a ∨ 0 ≤ Lib.indexByte special (s.getD a 0) then some (([], false), a)
  else some ((((s.take (a + (dec (s.drop a)).2)).drop a), true), a + (dec (s.drop a)).2)
def litP (s : List UInt8) (ver : Nat) (r : Option ((List UInt8 × Bool) × Nat)) (ae : AEnd) (O : AHeap) : Prop := match r with
  | some (t, b) => ae = .ret (.tuple [.str t.1, .bool t.2]) ∧ O = [some (rdr ver s b)]
  | none => ae = .panic (faultV s.length) ∧ O = [some (rdr ver s s.length)]
theorem literal_does {m : Int} (s : List UInt8) (a : Nat) (ha : a ≤ s.length) (hs : s.length < 1000000) (ver : Nat) :
    Does Tryz.prog (GL m) 267 [.ptr 0 ver 0 0] [some (rdr ver s a)] (litP s ver (litF s a)) := by
  refine Does.body tab Tryz.func267 rfl rfl ?_
  refine gos ?_
  cases h1 : pre s a [39] with
  | true =>
    have hle := pre_le h1 (by simp)
    simp only [List.length_cons, List.length_nil] at hle
    refine CallW.meth 0 (take_yes 1 rfl h1 hle (by omega) _) rfl rfl rfl rfl rfl rfl ?_
    refine gos ?_
    refine CallW.of1 0 (quoted_does s (a + 1) (by omega) hs ver) rfl rfl rfl rfl ?_
    intro ae O hq
    have hl : litF s a = (quoF s (a + 1)).map fun r => ((r.1, true), r.2) := by simp [litF, h1]
    rw [hl]
    cases h2 : quoF s (a + 1) with
    | none =>
      rw [h2] at hq
      obtain ⟨rfl, rfl⟩ := hq
      refine ⟨_, rfl, rfl, rfl, ?_⟩
      refine gos ?_
      exact ⟨by simp, rfl, rfl⟩
    | some r =>
      rw [h2] at hq
      obtain ⟨rfl, rfl⟩ := hq
      refine ⟨_, rfl, rfl, rfl, ?_⟩
      refine gos ?_
      refine RetW.plain (by simp) ?_
      exact ⟨rfl, rfl⟩
  | false =>
    refine CallW.meth 0 (take_no h1 ha _) rfl rfl rfl rfl rfl rfl ?_
    refine gos ?_
    refine DrawW.L ?_
    refine gos ?_
    by_cases hbe : a = s.length
    · subst hbe
      refine CmpW.t (by simp) ?_
      refine gos ?_
      refine RetW.plain (by simp) ?_
      simp [litF, h1, litP]
    · have hal : a < s.length := by omega
      have hget : s[(a : Int).toNat]? = some (s.getD a 0) := by simp [List.getD, hal]
      refine CmpW.f (by simp; omega) ?_
      refine gos ?_
      refine And.intro (by omega) ?_
      refine Exists.intro (s.getD a 0) (And.intro hget ?_)
      refine gos ?_
      refine CallW.pure (IndexByte_does _ _ _) rfl rfl ?_
      refine gos ?_
      have hc : ((s.getD a 0).toNat : Int).toNat.toUInt8 = s.getD a 0 := by simp
      rw [hc]
      change binIntW BinOp.geq IntKind.i64 (Lib.indexByte special (s.getD a 0)) 0 _
      by_cases hsp : 0 ≤ Lib.indexByte special (s.getD a 0)
      · refine CmpW.t (by simpa using hsp) ?_
        refine gos ?_
        refine RetW.plain (by simp) ?_
        have : litF s a = some (([], false), a) := by
          unfold litF
          rw [if_neg (by simp [h1]), if_pos (.inr hsp)]
        rw [this]
        exact ⟨rfl, rfl⟩
      · refine CmpW.f (by simpa using hsp) ?_
        refine gos ?_
        refine DrawW.L ?_
        refine gos ?_
        refine And.intro (And.intro (by omega) (by omega)) ?_
        refine CallW.pure (Decode_does m _) rfl rfl ?_
        have hd : s.drop (a : Int).toNat = s.drop a := by simp
        rw [hd]
        have hn1 := dec_le (s.drop a)
        rw [List.length_drop] at hn1
        have hl : litF s a = some ((((s.take (a + (dec (s.drop a)).2)).drop a), true), a + (dec (s.drop a)).2) := by
          unfold litF
          rw [if_neg (by simp [h1]), if_neg (by simp only [not_or]; exact ⟨by omega, hsp⟩)]
        rw [hl]
        generalize (dec (s.drop a)) = d at *
        obtain ⟨r, n⟩ := d
        dsimp only at *
        refine gos ?_
        have e1 : (a : Int) + (n : Nat) = ((a + n : Nat) : Int) := by omega
        rw [e1]
        refine DrawW.L ?_
        refine gos ?_
        have e2 : ((a + n : Nat) : Int) - (n : Nat) = (a : Int) := by omega
        rw [e2]
        refine gos ?_
        refine And.intro ⟨by omega, by omega, by omega⟩ ?_
        refine gos ?_
        refine RetW.plain (by simp) ?_
        exact ⟨by rw [Int.toNat_natCast, Int.toNat_natCast], rfl⟩
end Go.Proofs.YtpbjjhpihhnomaaGreatDoor

namespace Go.Proofs.YtpbjjhpihhnomaaGreatDoor
open Go Go.Abs Go.RowKit
def wroL (s : ByteArray) : Nat → Nat → Int
  | 0, _ => -1
  | f + 1, pos => if pos < s.size then
      if (Utf8.decode s pos).1 = 65533 ∧ (Lib.decodeGo (s.extract pos s.size)).2 < 2 then pos else wroL s f (pos + (Utf8.decode s pos).2)
    else -1
theorem wroL_end (s : ByteArray) (f pos : Nat) (h : ¬ pos < s.size) : wroL s f pos = -1 := by
  cases f <;> simp [wroL, h]
theorem tabs_below {w w' : World} {B : Nat} (h : Lib.Utf8Tabs 0 1 w) (hb : Below B w w') (h1 : 0 < B) (h2 : 1 < B) : Lib.Utf8Tabs 0 1 w' := by
  obtain ⟨a1, a2⟩ := h
  refine ⟨fun c hc => ?_, fun i hi => ?_⟩
  · rw [World.cell?_of_block (hb.block _ h1)]; exact a1 c hc
  · rw [World.cell?_of_block (hb.block _ h2), World.cell?_of_block (hb.block _ h2)]; exact a2 i hi
set_option maxHeartbeats 2000000 in
set_option maxRecDepth 1000000 in
theorem wrong_walk (s : ByteArray) (w : World) (hs : s.size < 4294967296) (hT : Lib.Utf8Tabs 0 1 w) (h1 : 0 < w.heap.size) (h2 : 1 < w.heap.size) :
    Calls Tryz.prog 193 #[.string s] w fun e w' => e = .returned (.int .i64 (wroL s s.size 0)) ∧ Below w.heap.size w w' := by
  go_enter Tryz.func193, Tryz.ntmps193
  go_wp2
  go_loopg [] s.size (fun g wx => ∃ pos : Nat, wx.heap[w.heap.size]? = some (.stringIter s pos) ∧ Below w.heap.size w wx ∧ wroL s g pos = wroL s s.size 0 ∧ s.size ≤ pos + g)
  case atStart => exact ⟨0, World.iter_heap w s 0, (Below.refl _ w).alloc (Nat.le_refl _) _, rfl, by omega⟩
  case round =>
    obtain ⟨pos, hit, hbw, hleft, hfu⟩ := hrel
    have hsz : w.heap.size < wr.heap.size := (Array.getElem?_eq_some_iff.1 hit).1
    by_cases hp : pos < s.size
    · obtain ⟨g, rfl⟩ : ∃ g, gk = g + 1 := ⟨gk - 1, by omega⟩
      have hnx : ∀ ty, (Instr.next (.pointer (some ⟨w.heap.size, 0, none⟩)) true ty).run Tryz.prog wr = _ := fun ty => Lib.run_next_any_at wr w.heap.size s pos ty hit hp
      have hwd := Lib.width_pos s pos
      have hr1 := Lib.rune_le s pos
      obtain ⟨R, hR⟩ : ∃ R, (Utf8.decode s pos).1 = R := ⟨_, rfl⟩
      obtain ⟨K, hK⟩ : ∃ K, (Utf8.decode s pos).2 = K := ⟨_, rfl⟩
      simp only [wroL, hp, if_true, hR, hK] at hleft
      rw [hR, hK] at hnx
      rw [hR] at hr1
      rw [hK] at hwd
      have hit2 := Lib.iterAt_heap wr w.heap.size s pos (pos + K) hit
      have hbw2 := Lib.below_iterAt hbw (k := w.heap.size) (Nat.le_refl _) s (pos + K)
      obtain ⟨W, hWd⟩ : ∃ W, wr.iterAt w.heap.size s (pos + K) = W := ⟨_, rfl⟩
      rw [hWd] at hnx hit2 hbw2
      have cS := Tryz.utf8_DecodeRuneInString (s.extract pos s.size) W (tabs_below hT hbw2 h1 h2)
      have hWs : w.heap.size < W.heap.size := (Array.getElem?_eq_some_iff.1 hit2).1
      obtain ⟨D, hD⟩ : ∃ D, (Lib.decodeGo (s.extract pos s.size)).2 = D := ⟨_, rfl⟩
      rw [hD] at hleft cS
      by_cases hR2 : R = 65533
      · subst hR2
        by_cases hD2 : D < 2
        · rw [if_pos ⟨rfl, hD2⟩] at hleft
          have hD3 : (D : Int) < 2 := by omega
          replace hleft := hleft.symm
          go_wp2_with (go_at_call 158; go_fit cS; rintro e W' ⟨rfl, hb⟩)
          go_ret
          exact ⟨by simp [hleft], hbw2.trans (hb.mono (by omega))⟩
        · rw [if_neg (by omega)] at hleft
          have hD3 : ¬ (D : Int) < 2 := by omega
          go_wp2_with (go_at_call 158; go_fit cS; rintro e W' ⟨rfl, hb⟩)
          go_roundg g
          case measure => omega
          case rel => exact ⟨pos + K, (hb.block w.heap.size hWs).trans hit2, hbw2.trans (hb.mono (by omega)), hleft, by omega⟩
      · rw [if_neg (by omega)] at hleft
        have hR3 : (R : Int) ≠ 65533 := by omega
        go_wp2_with (go_at_call 158; go_fit cS; rintro e W' ⟨rfl, hb⟩)
        go_roundg g
        case measure => omega
        case rel => exact ⟨pos + K, (hb.block w.heap.size hWs).trans hit2, hbw2.trans (hb.mono (by omega)), hleft, by omega⟩
    · have hnx : ∀ ty, (Instr.next (.pointer (some ⟨w.heap.size, 0, none⟩)) true ty).run Tryz.prog wr = _ := fun ty => Lib.run_next_end_at wr w.heap.size s pos ty hit hp
      rw [wroL_end s gk pos hp] at hleft
      go_wp2
      go_ret
      exact ⟨by rw [← hleft] <;> rfl, hbw⟩
end Go.Proofs.YtpbjjhpihhnomaaGreatDoor
