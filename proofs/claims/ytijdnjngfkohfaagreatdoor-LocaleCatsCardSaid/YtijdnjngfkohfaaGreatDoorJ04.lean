/- The reader of rules: its small steps. -/
import Derived.Test.YtijdnjngfkohfaaGreatDoorJ03
import Derived.Lib.QuoteLoop
import Derived.Test.YtijdnjngfkohfaaGreatDoorJ02
import Derived.Lib.OthersKept
import Derived.Deep.LoopGhost
import Derived.Lib.TrimU
import Derived.Laws.Strings3
set_option linter.unusedVariables false
set_option linter.unusedSimpArgs false
set_option maxRecDepth 100000
set_option maxHeartbeats 4000000

namespace Go.Proofs.YtijdnjngfkohfaaGreatDoor
open Go Go.Abs
attribute [local irreducible] DrawW CallW RetW AC Does CmpW
set_option maxRecDepth 100000
variable {G : Globs}
def quoL (s : List UInt8) : Nat → Nat → List UInt8 → Option (List UInt8 × Nat)
  | 0, _, _ => none
  | f + 1, a, acc => if s.length ≤ a then none else
      if pre s a [39, 39] then quoL s f (a + 2) (acc ++ [39])
      else if pre s a [39] then some (acc, a + 1)
      else quoL s f (a + 1) (acc ++ [s.getD a 0])
def quoF (s : List UInt8) (a : Nat) : Option (List UInt8 × Nat) := if pre s a [39] then some ([39], a + 1) else quoL s (s.length + 1 - a) a []
def quoP (s : List UInt8) (ver : Nat) (r : Option (List UInt8 × Nat)) (ae : AEnd) (O : AHeap) : Prop := match r with
  | some (t, b) => ae = .ret (.str t) ∧ O = [some (rdr ver s b)]
  | none => ae = .panic (faultV s.length) ∧ O = [some (rdr ver s s.length)]
theorem quoted_does (s : List UInt8) (a : Nat) (ha : a ≤ s.length) (hs : s.length < 1000000) (ver : Nat) :
    Does Tryz.prog G 275 [.ptr 0 ver 0 0] [some (rdr ver s a)] (quoP s ver (quoF s a)) := by
  refine Does.body tab Tryz.func275 rfl rfl ?_
  refine gos ?_
  cases h1 : pre s a [39] with
  | true =>
    refine CallW.meth 0 (take_yes 1 rfl h1 (pre_le h1 (by simp)) (by omega) _) rfl rfl rfl rfl rfl rfl ?_
    refine gos ?_
    refine RetW.plain (by simp) ?_
    simp [quoF, h1, quoP]
  | false =>
    refine CallW.meth 0 (take_no h1 ha _) rfl rfl rfl rfl rfl rfl ?_
    refine gos ?_
    intro v1
    refine gos ?_
    intro v2
    refine gos ?_
    refine AC.loopF tab (fun n e h => ∃ b acc rv ad, s.length < n + b ∧ b ≤ s.length ∧ acc.length ≤ b ∧ quoF s a = quoL s n b acc ∧ Self 2 v2 ad ∧ e = [.ptr 0 ver 0 0, .any, .str [], .ptr 2 v2 0 0] ++ List.replicate 40 .any ∧
      h = [some (rdr ver s b), some ⟨rv, 5, 1, byteEs' acc⟩, some (bldO 243 v2 ad (.sl 1 rv))]) (s.length + 1 - a) ⟨_, fgts, a, [], v1, .nilp, by omega, ha, by simp, by simp [quoF, h1], .nil, rfl, rfl⟩ ?_
    rintro n e h ⟨b, acc, rv, ad, hn, hb, hacc, hq, had, rfl, rfl⟩
    obtain ⟨n, rfl⟩ : ∃ m, n = m + 1 := ⟨n - 1, by omega⟩
    simp only [quoL] at hq
    refine DrawW.L ?_
    refine gos ?_
    refine CmpW.split (fun hc => ?_) (fun hc => ?_)
    · have hbe : b = s.length := by have : (b : Int) = s.length := by simpa using hc
                                    omega
      subst hbe
      rw [if_pos (Nat.le_refl _)] at hq
      refine gos ?_
      refine CallW.of1 0 (fail_does s s.length ver) rfl rfl rfl rfl ?_
      rintro ae O ⟨rfl, rfl⟩
      refine ⟨_, rfl, rfl, rfl, ?_⟩
      refine gos ?_
      refine ⟨by simp, ?_⟩
      rw [hq]
      exact ⟨rfl, rfl⟩
    · have hbl : b < s.length := by
        have : ¬ (b : Int) = s.length := by simpa using hc
        omega
      rw [if_neg (by omega)] at hq
      refine gos ?_
      cases h2 : pre s b [39, 39] with
      | true =>
        have hle := pre_le h2 (by simp)
        simp only [List.length_cons, List.length_nil] at hle
        rw [if_pos h2] at hq
        refine CallW.meth 0 (take_yes 2 rfl h2 hle (by omega) _) rfl rfl rfl rfl rfl rfl ?_
        refine gos ?_
        refine CallW.bldW (i := 2) (j := 1) (by decide) had rfl rfl (fun a' h => WriteByte_does acc h 39 (by omega)) rfl rfl (fun rv' => ?_)
        refine gos ?_
        refine ⟨n, _, by omega, fgts, b + 2, acc ++ [39], rv', _, by omega, by omega, by simp; omega, hq, .at_, rfl, rfl⟩
      | false =>
        rw [if_neg (by simp [h2])] at hq
        refine CallW.meth 0 (take_no h2 hb _) rfl rfl rfl rfl rfl rfl ?_
        refine gos ?_
        cases h3 : pre s b [39] with
        | true =>
          have hle := pre_le h3 (by simp)
          simp only [List.length_cons, List.length_nil] at hle
          rw [if_pos h3] at hq
          refine CallW.meth 0 (take_yes 1 rfl h3 hle (by omega) _) rfl rfl rfl rfl rfl rfl ?_
          refine gos ?_
          refine CallW.bldS (i := 2) (j := 1) (by decide) had rfl rfl (fun a' h => String_bld acc h) rfl rfl ?_
          refine gos ?_
          refine RetW.plain (by simp) ?_
          rw [hq]
          exact ⟨rfl, rfl⟩
        | false =>
          rw [if_neg (by simp [h3])] at hq
          refine CallW.meth 0 (take_no h3 hb _) rfl rfl rfl rfl rfl rfl ?_
          refine gos ?_
          refine DrawW.L ?_
          refine gos ?_
          refine And.intro (by omega) ?_
          refine Exists.intro (s.getD b 0) (And.intro (by simp [List.getD, hbl]) ?_)
          refine gos ?_
          refine CallW.bldW (i := 2) (j := 1) (by decide) had rfl rfl (fun a' h => WriteByte_does acc h _ (by omega)) rfl rfl (fun rv' => ?_)
          refine gos ?_
          refine ⟨n, _, by omega, fgts, b + 1, _, rv', _, by omega, by omega, by simp; omega, hq, .at_, rfl, rfl⟩
def special : List UInt8 := [35, 48, 49, 50, 51, 52, 53, 54, 55, 56, 57, 44, 46, 59, 64, 42, 45, 43, 37, 39]
theorem dec_le (s : List UInt8) : (dec s).2 ≤ s.length := by
  unfold dec Lib.decodeGo
  split
  · exact Nat.zero_le _
  · rename_i h
    exact Lib.width_le ⟨⟨s⟩⟩ (Nat.pos_of_ne_zero h)
theorem dec_pos (s : List UInt8) (h : s ≠ []) : 1 ≤ (dec s).2 := by
  have hp : 0 < s.length := List.length_pos_iff.2 h
  have : ¬ (⟨⟨s⟩⟩ : ByteArray).size = 0 := by rw [str_size]; omega
  unfold dec Lib.decodeGo
  rw [if_neg this]
  exact Lib.decode_width_pos _ 0 (by rw [str_size]; exact hp)
def litF (s : List UInt8) (a : Nat) : Option ((List UInt8 × Bool) × Nat) :=
  if pre s a [39] then (quoF s (a + 1)).map fun r => ((r.1, true), r.2)
  else if s.length ≤ a ∨ 0 ≤ Lib.indexByte special (s.getD a 0) then some (([], false), a)
  else some ((((s.take (a + (dec (s.drop a)).2)).drop a), true), a + (dec (s.drop a)).2)
def litP (s : List UInt8) (ver : Nat) (r : Option ((List UInt8 × Bool) × Nat)) (ae : AEnd) (O : AHeap) : Prop := match r with
  | some (t, b) => ae = .ret (.tuple [.str t.1, .bool t.2]) ∧ O = [some (rdr ver s b)]
  | none => ae = .panic (faultV s.length) ∧ O = [some (rdr ver s s.length)]
theorem literal_does {m : Int} (s : List UInt8) (a : Nat) (ha : a ≤ s.length) (hs : s.length < 1000000) (ver : Nat) :
    Does Tryz.prog (GL m) 255 [.ptr 0 ver 0 0] [some (rdr ver s a)] (litP s ver (litF s a)) := by
  refine Does.body tab Tryz.func255 rfl rfl ?_
  refine gos ?_
  cases h1 : pre s a [39] with
  | true =>
    have hle := pre_le h1 (by simp)
    simp only [List.length_cons, List.length_nil] at hle
    refine CallW.meth 0 (take_yes 1 rfl h1 hle (by omega) _) rfl rfl rfl rfl rfl rfl ?_
    refine gos ?_
    refine CallW.of1 0 (quoted_does s (a + 1) (by omega) hs ver) rfl rfl rfl rfl ?_
    intro ae O hq
    have hl : litF s a = (quoF s (a + 1)).map fun r => ((r.1, true), r.2) := by simp [litF, h1]
    rw [hl]
    cases h2 : quoF s (a + 1) with
    | none =>
      rw [h2] at hq
      obtain ⟨rfl, rfl⟩ := hq
      refine ⟨_, rfl, rfl, rfl, ?_⟩
      refine gos ?_
      exact ⟨by simp, rfl, rfl⟩
    | some r =>
      rw [h2] at hq
      obtain ⟨rfl, rfl⟩ := hq
      refine ⟨_, rfl, rfl, rfl, ?_⟩
      refine gos ?_
      refine RetW.plain (by simp) ?_
      exact ⟨rfl, rfl⟩
  | false =>
    refine CallW.meth 0 (take_no h1 ha _) rfl rfl rfl rfl rfl rfl ?_
    refine gos ?_
    refine DrawW.L ?_
    refine gos ?_
    by_cases hbe : a = s.length
    · subst hbe
      refine CmpW.t (by simp) ?_
      refine gos ?_
      refine RetW.plain (by simp) ?_
      simp [litF, h1, litP]
    · have hal : a < s.length := by omega
      have hget : s[(a : Int).toNat]? = some (s.getD a 0) := by simp [List.getD, hal]
      refine CmpW.f (by simp; omega) ?_
      refine gos ?_
      refine And.intro (by omega) ?_
      refine Exists.intro (s.getD a 0) (And.intro hget ?_)
      refine gos ?_
      refine CallW.pure (IndexByte_does _ _ _) rfl rfl ?_
      refine gos ?_
      have hc : ((s.getD a 0).toNat : Int).toNat.toUInt8 = s.getD a 0 := by simp
      rw [hc]
      change binIntW BinOp.geq IntKind.i64 (Lib.indexByte special (s.getD a 0)) 0 _
      by_cases hsp : 0 ≤ Lib.indexByte special (s.getD a 0)
      · refine CmpW.t (by simpa using hsp) ?_
        refine gos ?_
        refine RetW.plain (by simp) ?_
        have : litF s a = some (([], false), a) := by
          unfold litF
          rw [if_neg (by simp [h1]), if_pos (.inr hsp)]
        rw [this]
        exact ⟨rfl, rfl⟩
      · refine CmpW.f (by simpa using hsp) ?_
        refine gos ?_
        refine DrawW.L ?_
        refine gos ?_
        refine And.intro (And.intro (by omega) (by omega)) ?_
        refine CallW.pure (Decode_does m _) rfl rfl ?_
        have hd : s.drop (a : Int).toNat = s.drop a := by simp
        rw [hd]
        have hn1 := dec_le (s.drop a)
        rw [List.length_drop] at hn1
        have hl : litF s a = some ((((s.take (a + (dec (s.drop a)).2)).drop a), true), a + (dec (s.drop a)).2) := by
          unfold litF
          rw [if_neg (by simp [h1]), if_neg (by simp only [not_or]; exact ⟨by omega, hsp⟩)]
        rw [hl]
        generalize (dec (s.drop a)) = d at *
        obtain ⟨r, n⟩ := d
        dsimp only at *
        refine gos ?_
        have e1 : (a : Int) + (n : Nat) = ((a + n : Nat) : Int) := by omega
        rw [e1]
        refine DrawW.L ?_
        refine gos ?_
        have e2 : ((a + n : Nat) : Int) - (n : Nat) = (a : Int) := by omega
        rw [e2]
        refine gos ?_
        refine And.intro ⟨by omega, by omega, by omega⟩ ?_
        refine gos ?_
        refine RetW.plain (by simp) ?_
        exact ⟨by rw [Int.toNat_natCast, Int.toNat_natCast], rfl⟩
end Go.Proofs.YtijdnjngfkohfaaGreatDoor

namespace Go.Proofs.YtijdnjngfkohfaaGreatDoor
open Go Go.Abs
attribute [local irreducible] DrawW CallW RetW AC Does CmpW
set_option maxRecDepth 100000
theorem curN_le (s : List UInt8) : ∀ f a, a ≤ s.length → a + 2 * curN s f a ≤ s.length
  | 0, a, h => by simp [curN]; exact h
  | f + 1, a, h => by
    unfold curN
    split
    · rename_i hp
      have h1 := pre_le hp (by simp)
      simp only [List.length_cons, List.length_nil] at h1
      have := curN_le s f (a + 2) (by omega)
      omega
    · simpa using h
theorem signF_t {s : List UInt8} {a : Nat} (ha : a ≤ s.length) (h : (signF s a).2.1 = true) : a < (signF s a).2.2 ∧ (signF s a).2.2 ≤ s.length ∧ (signF s a).1.text = [] := by
  unfold signF at *
  split
  · rename_i hp; have h1 := pre_le hp (by simp); simp only [List.length_cons, List.length_nil] at h1; exact ⟨by simp, by omega, rfl⟩
  split
  · rename_i hp; have h1 := pre_le hp (by simp); simp only [List.length_cons, List.length_nil] at h1; exact ⟨by simp, by omega, rfl⟩
  split
  · rename_i hp; have h1 := pre_le hp (by simp); simp only [List.length_cons, List.length_nil] at h1; exact ⟨by simp, by omega, rfl⟩
  split
  · rename_i hp; have h1 := pre_le hp (by simp); simp only [List.length_cons, List.length_nil] at h1; exact ⟨by simp, by omega, rfl⟩
  rename_i h1 h2 h3 h4
  simp only [h1, h2, h3, h4, if_false, Bool.false_eq_true] at h
  have := curN_le s s.length a ha
  simp at h
  exact ⟨by simp; omega, this, rfl⟩
theorem signF_f {s : List UInt8} {a : Nat} (h : (signF s a).2.1 = false) : (signF s a).2.2 = a := by
  unfold signF at *
  split at h; · simp at h
  split at h; · simp at h
  split at h; · simp at h
  split at h; · simp at h
  rename_i h1 h2 h3 h4
  simp only [h1, h2, h3, h4, if_false, Bool.false_eq_true]
  simp at h
  omega
theorem quoL_le (s : List UInt8) : ∀ f a acc t b, a ≤ s.length → quoL s f a acc = some (t, b) → a < b ∧ b ≤ s.length ∧ t.length + a < acc.length + b
  | 0, a, acc, t, b, _, h => by simp [quoL] at h
  | f + 1, a, acc, t, b, ha, h => by
    unfold quoL at h
    split at h
    · cases h
    split at h
    · rename_i hp
      have h1 := pre_le hp (by simp)
      simp only [List.length_cons, List.length_nil] at h1
      have := quoL_le s f (a + 2) _ t b (by omega) h
      simp at this; omega
    split at h
    · rename_i hp
      have h1 := pre_le hp (by simp)
      simp only [List.length_cons, List.length_nil] at h1
      simp at h
      obtain ⟨rfl, rfl⟩ := h
      omega
    · have := quoL_le s f (a + 1) _ t b (by omega) h
      simp at this; omega
theorem quoF_le {s : List UInt8} {a : Nat} {t : List UInt8} {b : Nat} (ha : a ≤ s.length) (h : quoF s a = some (t, b)) : a < b ∧ b ≤ s.length ∧ t.length + a ≤ b := by
  unfold quoF at h
  split at h
  · rename_i hp
    have h1 := pre_le hp (by simp)
    simp only [List.length_cons, List.length_nil] at h1
    simp at h
    obtain ⟨rfl, rfl⟩ := h
    simp; omega
  · have := quoL_le s _ a [] t b ha h
    simp at this; omega
theorem litF_t {s : List UInt8} {a : Nat} {t : List UInt8} {b : Nat} (ha : a ≤ s.length) (h : litF s a = some ((t, true), b)) : a < b ∧ b ≤ s.length ∧ t.length + a ≤ b := by
  unfold litF at h
  split at h
  · rename_i hp
    have h1 := pre_le hp (by simp)
    simp only [List.length_cons, List.length_nil] at h1
    cases h2 : quoF s (a + 1) with
    | none => rw [h2] at h; simp at h
    | some r =>
      rw [h2] at h
      simp at h
      obtain ⟨rfl, rfl⟩ := h
      have := quoF_le (t := r.1) (b := r.2) (by omega) h2
      omega
  split at h
  · simp at h
  · rename_i hp
    simp only [not_or] at hp
    simp at h
    obtain ⟨rfl, rfl⟩ := h
    have h1 := dec_le (s.drop a)
    have h2 := dec_pos (s.drop a) (by intro e; have := congrArg List.length e; simp at this; omega)
    simp only [List.length_drop] at h1
    simp; omega
theorem litF_f {s : List UInt8} {a : Nat} {t : List UInt8} {b : Nat} (h : litF s a = some ((t, false), b)) : b = a := by
  unfold litF at h
  split at h
  · cases h2 : quoF s (a + 1) with
    | none => rw [h2] at h; simp at h
    | some r => rw [h2] at h; simp at h
  split at h
  · simp at h; exact h.2.symm
  · simp at h
def more (out : List Piece) (t : List UInt8) : List Piece := match out.getLast? with
  | some p => if p.kind = 0 then out.dropLast ++ [{ p with text := p.text ++ t }] else out ++ [⟨0, t, 0⟩]
  | none => [⟨0, t, 0⟩]
def affL (s : List UInt8) : Nat → Nat → List Piece → Option (List Piece × Nat)
  | 0, _, _ => none
  | f + 1, a, out => if (signF s a).2.1 then affL s f (signF s a).2.2 (out ++ [(signF s a).1]) else match litF s a with
    | none => none
    | some ((t, ok), b) => if !ok then some (out, b) else if t = [] then affL s f b out else affL s f b (more out t)
def affF (s : List UInt8) (a : Nat) : Option (List Piece × Nat) := affL s (s.length + 1 - a) a []
def affP (s : List UInt8) (ver : Nat) (r : Option (List Piece × Nat)) (ae : AEnd) (O : AHeap) : Prop := match r with
  | some (ps, b) => ae = .ret (.fsl (ps.map encP)) ∧ O = [some (rdr ver s b)]
  | none => ae = .panic (faultV s.length) ∧ O = [some (rdr ver s s.length)]
theorem encs_closed : ∀ out : List Piece, closedLL (out.map encP) = true
  | [] => rfl
  | p :: out => by
    have := encs_closed out
    simp [closedLL, encP, closedL, closed, this]
theorem snoc_cases {α : Type} (l : List α) : l = [] ∨ ∃ i p, l = i ++ [p] := by
  rcases List.eq_nil_or_concat l with h | ⟨i, p, h⟩
  · exact .inl h
  · exact .inr ⟨i, p, by rw [h]; simp⟩
theorem affix_does {m : Int} (s : List UInt8) (a : Nat) (ha : a ≤ s.length) (hs : s.length < 1000000) (ver : Nat) :
    Does Tryz.prog (GL m) 222 [.ptr 0 ver 0 0] [some (rdr ver s a)] (affP s ver (affF s a)) := by
  refine Does.body tab Tryz.func222 rfl rfl ?_
  refine gos ?_
  refine AC.own 3 366 3 rfl (by decide) fun v1 => ?_
  refine AC.loopC tab (fun n e h => ∃ b out rv, s.length < n + b ∧ b ≤ s.length ∧ out.length ≤ b ∧ (∀ p ∈ out, p.text.length ≤ b) ∧ affF s a = affL s n b out ∧ e = [.ptr 0 ver 0 0, .any, .any, .sl 1 rv] ++ List.replicate 56 .any ∧
    h = [some (rdr ver s b), some ⟨rv, 366, 3, out.map encP⟩]) (s.length + 1 - a) ⟨_, fgts, a, [], v1, by omega, ha, by simp, by simp, rfl, rfl, rfl⟩ ?_
  rintro n e h ⟨b, out, rv, hn, hb, hol, hot, hq, rfl, rfl⟩
  obtain ⟨n, rfl⟩ : ∃ m, n = m + 1 := ⟨n - 1, by omega⟩
  simp only [affL] at hq
  refine gos ?_
  refine CallW.meth 0 (sign_does s b hb (by omega) ver) rfl rfl rfl rfl rfl rfl ?_
  refine gos ?_
  intro v2
  refine gos ?_
  cases hsg : (signF s b).2.1 with
  | true =>
    obtain ⟨q1, q2, q3⟩ := signF_t hb hsg
    rw [if_pos hsg] at hq
    refine gos ?_
    intro v3
    refine gos ?_
    refine And.intro (And.intro (fun y hy => by rcases List.mem_singleton.1 hy with rfl; rfl) (fun y hy => by rcases List.mem_singleton.1 hy with rfl; rfl)) ?_; refine And.intro (And.intro rfl trivial) ?_
    refine gos ?_
    refine And.intro (by simp [maxLen, ti366]; omega) ?_
    intro v4
    refine gos ?_
    refine ⟨n, _, 2, by omega, fgts, (signF s b).2.2, out ++ [(signF s b).1], v4, by omega, q2, by simp; omega, ?_, hq, rfl, ?_⟩
    · intro p hp
      rcases List.mem_append.1 hp with hp | hp
      · have := hot p hp; omega
      · rcases List.mem_singleton.1 hp with rfl
        rw [q3]; simp
    · rw [List.map_append]; rfl
  | false =>
    have q1 := signF_f hsg
    rw [if_neg (by simp [hsg])] at hq
    rw [q1]
    refine gos ?_
    refine CallW.of1 0 (literal_does s b hb hs ver) rfl rfl rfl rfl ?_
    intro ae O hlit
    cases hl : litF s b with
    | none =>
      rw [hl] at hq hlit
      obtain ⟨rfl, rfl⟩ := hlit
      refine ⟨_, rfl, rfl, rfl, ?_⟩
      refine gos ?_
      refine ⟨by simp, ?_⟩
      rw [hq]
      exact ⟨rfl, rfl⟩
    | some r =>
      obtain ⟨⟨t, ok⟩, b'⟩ := r
      rw [hl] at hq hlit
      obtain ⟨rfl, rfl⟩ := hlit
      refine ⟨_, rfl, rfl, rfl, ?_⟩
      refine gos ?_
      cases ok with
      | false =>
        have q2 := litF_f hl
        subst q2
        simp only [Bool.not_false, if_true] at hq
        refine gos ?_
        refine RetW.wk (by simp) ?_ (Wk.row (k := 0) (i := 1) rfl rfl rfl ?_) ?_
        · rfl
        · exact encs_closed out
        · rw [hq]; exact ⟨rfl, rfl⟩
      | true =>
        obtain ⟨r1, r2, r3⟩ := litF_t hb hl
        simp only [Bool.not_true, Bool.false_eq_true, if_false] at hq
        refine gos ?_
        by_cases ht : t = []
        · rw [if_pos ht] at hq
          subst ht
          refine CmpW.t rfl ?_
          refine gos ?_
          refine ⟨n, _, 2, by omega, fgts, b', out, rv, by omega, r2, by omega, fun p hp => by have := hot p hp; omega, hq, rfl, rfl⟩
        · rw [if_neg ht] at hq
          refine CmpW.f (by simpa using ht) ?_
          refine gos ?_
          rcases snoc_cases out with rfl | ⟨init, p, rfl⟩
          · refine CmpW.f (by rfl) ?_
            refine gos ?_
            intro v3
            refine gos ?_
            refine And.intro (And.intro (fun y hy => by rcases List.mem_singleton.1 hy with rfl; rfl) (fun y hy => by rcases List.mem_singleton.1 hy with rfl; rfl)) ?_; refine And.intro (And.intro rfl trivial) ?_
            refine gos ?_
            intro v4
            refine gos ?_
            refine ⟨n, _, 2, by omega, fgts, b', [⟨0, t, 0⟩], v4, by omega, r2, by simp; omega, ?_, hq, rfl, rfl⟩
            intro p hp
            rcases List.mem_singleton.1 hp with rfl
            show t.length ≤ b'
            omega
          · have hol' : init.length + 1 ≤ b := by simpa using hol
            have hpt : p.text.length ≤ b := hot p (by simp)
            refine CmpW.t (by simp) ?_
            refine gos ?_
            refine And.intro (by simp; omega) ?_
            refine gos ?_
            refine Exists.intro (encP p) (And.intro (by simp) ?_)
            refine gos ?_
            by_cases hk : p.kind = 0
            · have hm : more (init ++ [p]) t = init ++ [{ p with text := p.text ++ t }] := by simp [more, hk]
              rw [hm] at hq
              refine CmpW.t (by simp [hk]) ?_
              refine gos ?_
              refine And.intro (by simp; omega) ?_
              refine gos ?_
              refine Exists.intro (encP p) (And.intro (by simp) ?_)
              refine gos ?_
              refine And.intro (by simp; omega) ?_
              refine gos ?_
              refine And.intro (by simp; omega) ?_
              refine gos ?_
              refine Exists.intro (encP p) (And.intro (by simp) ?_)
              refine gos ?_
              refine ⟨n, _, 2, by omega, fgts, b', _, rv, by omega, r2, by simp; omega, ?_, hq, rfl, ?_⟩
              · intro y hy
                rcases List.mem_append.1 hy with hy | hy
                · have := hot y (by simp [hy]); omega
                · rcases List.mem_singleton.1 hy with rfl
                  simp; omega
              · simp [encP, rdr]
            · have hm : more (init ++ [p]) t = init ++ [p] ++ [⟨0, t, 0⟩] := by simp [more, hk]
              rw [hm] at hq
              refine CmpW.f (by simpa using hk) ?_
              refine gos ?_
              intro v3
              refine gos ?_
              refine And.intro (And.intro (fun y hy => by rcases List.mem_singleton.1 hy with rfl; rfl) (fun y hy => by rcases List.mem_singleton.1 hy with rfl; rfl)) ?_; refine And.intro (And.intro rfl trivial) ?_
              refine gos ?_
              refine And.intro (by simp [maxLen, ti366]; omega) ?_
              intro v4
              refine gos ?_
              refine ⟨n, _, 2, by omega, fgts, b', _, v4, by omega, r2, by simp; omega, ?_, hq, rfl, ?_⟩
              · intro y hy
                rcases List.mem_append.1 hy with hy | hy
                · have := hot y hy; omega
                · rcases List.mem_singleton.1 hy with rfl
                  show t.length ≤ b'
                  omega
              · simp [encP, rdr, ti366]
end Go.Proofs.YtijdnjngfkohfaaGreatDoor

namespace Go.Proofs.YtijdnjngfkohfaaGreatDoor
open Go Go.Abs
attribute [local irreducible] DrawW CallW RetW AC Does CmpW
set_option maxRecDepth 100000
variable {G : Globs}
structure Num where
  hash : Nat
  mi : Nat
  mnf : Nat
  mxf : Nat
  g : Nat
  m : Nat
def Num.zero : Num := ⟨0, 0, 0, 0, 0, 0⟩
structure Aff where
  a : AV
  b : AV
  c : AV
  d : AV
def Aff.ok (x : Aff) : Prop := closed x.a = true ∧ closed x.b = true ∧ closed x.c = true ∧ closed x.d = true
def patCells (x : Aff) (two : Bool) (N : Num) : List AV := [x.a, x.b, x.c, x.d, .bool two, .int .i64 N.hash, .int .i64 N.mi, .int .i64 N.mnf, .int .i64 N.mxf, .int .i64 N.g, .int .i64 N.m]
def patO (pv : Nat) (x : Aff) (two : Bool) (N : Num) : AObj := ⟨pv, 78, 11, [patCells x two N]⟩
theorem patO_closed {pv : Nat} {x : Aff} {two : Bool} {N : Num} (h : x.ok) : closedLL (patO pv x two N).es = true := by
  obtain ⟨h1, h2, h3, h4⟩ := h
  simp [patO, patCells, closedLL, closedL, h1, h2, h3, h4, closed]
def ints (cs : List Nat) : List (List AV) := cs.map fun (c : Nat) => [.int .i64 (c : Int)]
def intO (cv : Nat) (cs : List Nat) : AObj := ⟨cv, 3, 1, ints cs⟩
@[simp] theorem intO_len (cv : Nat) (cs : List Nat) : (intO cv cs).es.length = cs.length := by simp [intO, ints]
theorem intO_closed (cv : Nat) : ∀ cs : List Nat, closedLL (intO cv cs).es = true
  | [] => rfl
  | c :: cs => by
    have := intO_closed cv cs
    simp only [intO, ints] at this
    simp [intO, ints, closedLL, closedL, closed, this]
def grpF (places : Nat) (cs : List Nat) (N : Num) : Option Num :=
  if places = 0 then none else match cs with
    | [] => some N
    | [c] => if places = c then none else some { N with g := places - c }
    | [c, d] => if places = d then none else if d - c = places - d then some { N with g := places - d } else some { N with g := places - d, m := d - c }
    | _ => none
theorem groups_does (s : List UInt8) (a ver pv cv places : Nat) (x : Aff) (hx : x.ok) (two : Bool) (N : Num) (cs : List Nat) (hp : places < 1000000) (hc : cs.length ≤ 2) (h1 : ∀ c ∈ cs, c ≤ places) (h2 : ∀ c d, cs = [c, d] → c ≤ d) :
    Does Tryz.prog G 277 [.ptr 0 ver 0 0, .ptr 1 pv 0 0, .int .i64 places, .sl 2 cv] [some (rdr ver s a), some (patO pv x two N), some (intO cv cs)] fun ae O => match grpF places cs N with
      | none => ae = .panic (faultV a)
      | some N' => ae = .ret (.tuple []) ∧ O = [some (rdr ver s a), some (patO pv x two N'), some (intO cv cs)] := by
  refine Does.body tab Tryz.func277 rfl rfl ?_
  refine gos ?_
  by_cases h0 : places = 0
  · refine CmpW.t (by simpa using h0) ?_
    refine gos ?_
    refine CallW.of1 0 (fail_does s a ver) rfl rfl rfl rfl ?_
    rintro ae O ⟨rfl, rfl⟩
    refine ⟨_, rfl, rfl, rfl, ?_⟩
    refine gos ?_
    refine ⟨by simp, ?_⟩
    simp [grpF, h0]
  · refine CmpW.f (by simpa using h0) ?_
    refine gos ?_
    match cs, hc with
    | [], _ =>
      refine gos ?_
      refine RetW.plain (by simp) ?_
      simp [grpF, h0]
    | [c], _ =>
      have hc1 := h1 c (by simp)
      refine gos ?_
      refine And.intro (by simp) ?_
      refine gos ?_
      have e1 : (places : Int) - (c : Int) = ((places - c : Nat) : Int) := by omega
      rw [e1]
      by_cases hg : places = c
      · refine CmpW.t (by simp; omega) ?_
        refine gos ?_
        refine CallW.of1 0 (fail_does s a ver) rfl rfl rfl rfl ?_
        rintro ae O ⟨rfl, rfl⟩
        refine ⟨_, rfl, rfl, rfl, ?_⟩
        refine gos ?_
        refine ⟨by simp, ?_⟩
        simp [grpF, h0, hg]
      · refine CmpW.f (by simp; omega) ?_
        refine gos ?_
        refine DrawW.L ?_
        refine gos ?_
        refine RetW.plain (by simp) ?_
        simp only [grpF, if_neg h0, if_neg hg]
        exact ⟨trivial, rfl⟩
    | [c, d], _ =>
      have hc1 := h1 c (by simp)
      have hd1 := h1 d (by simp)
      have hcd := h2 c d rfl
      refine gos ?_
      refine And.intro (by simp) ?_
      refine gos ?_
      have e1 : (places : Int) - (d : Int) = ((places - d : Nat) : Int) := by omega
      rw [e1]
      by_cases hg : places = d
      · refine CmpW.t (by simp; omega) ?_
        refine gos ?_
        refine CallW.of1 0 (fail_does s a ver) rfl rfl rfl rfl ?_
        rintro ae O ⟨rfl, rfl⟩
        refine ⟨_, rfl, rfl, rfl, ?_⟩
        refine gos ?_
        refine ⟨by simp, ?_⟩
        simp [grpF, h0, hg]
      · refine CmpW.f (by simp; omega) ?_
        refine gos ?_
        refine DrawW.L ?_
        refine gos ?_
        refine And.intro (by simp) ?_
        refine gos ?_
        have e2 : (d : Int) - (c : Int) = ((d - c : Nat) : Int) := by omega
        rw [e2]
        by_cases hm : d - c = places - d
        · refine CmpW.f (by simp; omega) ?_
          refine gos ?_
          refine RetW.plain (by simp) ?_
          simp only [grpF, if_neg h0, if_neg hg, if_pos hm]
          exact ⟨trivial, rfl⟩
        · refine CmpW.t (by simp; omega) ?_
          refine gos ?_
          refine And.intro (by simp) ?_
          refine gos ?_
          have e2 : (d : Int) - (c : Int) = ((d - c : Nat) : Int) := by omega
          rw [e2]
          refine gos ?_
          refine RetW.plain (by simp) ?_
          simp only [grpF, if_neg h0, if_neg hg, if_neg hm]
          exact ⟨trivial, rfl⟩
end Go.Proofs.YtijdnjngfkohfaaGreatDoor

namespace Go.Proofs.YtijdnjngfkohfaaGreatDoor
open Go Go.Abs Go.RowKit
def wroL (s : ByteArray) : Nat → Nat → Int
  | 0, _ => -1
  | f + 1, pos => if pos < s.size then
      if (Utf8.decode s pos).1 = 65533 ∧ (Lib.decodeGo (s.extract pos s.size)).2 < 2 then pos else wroL s f (pos + (Utf8.decode s pos).2)
    else -1
theorem wroL_end (s : ByteArray) (f pos : Nat) (h : ¬ pos < s.size) : wroL s f pos = -1 := by
  cases f <;> simp [wroL, h]
theorem tabs_below {w w' : World} {B : Nat} (h : Lib.Utf8Tabs 0 1 w) (hb : Below B w w') (h1 : 0 < B) (h2 : 1 < B) : Lib.Utf8Tabs 0 1 w' := by
  obtain ⟨a1, a2⟩ := h
  refine ⟨fun c hc => ?_, fun i hi => ?_⟩
  · rw [World.cell?_of_block (hb.block _ h1)]; exact a1 c hc
  · rw [World.cell?_of_block (hb.block _ h2), World.cell?_of_block (hb.block _ h2)]; exact a2 i hi
set_option maxHeartbeats 2000000 in
set_option maxRecDepth 1000000 in
theorem wrong_walk (s : ByteArray) (w : World) (hs : s.size < 4294967296) (hT : Lib.Utf8Tabs 0 1 w) (h1 : 0 < w.heap.size) (h2 : 1 < w.heap.size) :
    Calls Tryz.prog 178 #[.string s] w fun e w' => e = .returned (.int .i64 (wroL s s.size 0)) ∧ Below w.heap.size w w' := by
  go_enter Tryz.func178, Tryz.ntmps178
  go_wp2
  go_loopg [] s.size (fun g wx => ∃ pos : Nat, wx.heap[w.heap.size]? = some (.stringIter s pos) ∧ Below w.heap.size w wx ∧ wroL s g pos = wroL s s.size 0 ∧ s.size ≤ pos + g)
  case atStart => exact ⟨0, World.iter_heap w s 0, (Below.refl _ w).alloc (Nat.le_refl _) _, rfl, by omega⟩
  case round =>
    obtain ⟨pos, hit, hbw, hleft, hfu⟩ := hrel
    have hsz : w.heap.size < wr.heap.size := (Array.getElem?_eq_some_iff.1 hit).1
    by_cases hp : pos < s.size
    · obtain ⟨g, rfl⟩ : ∃ g, gk = g + 1 := ⟨gk - 1, by omega⟩
      have hnx : ∀ ty, (Instr.next (.pointer (some ⟨w.heap.size, 0, none⟩)) true ty).run Tryz.prog wr = _ := fun ty => Lib.run_next_any_at wr w.heap.size s pos ty hit hp
      have hwd := Lib.width_pos s pos
      have hr1 := Lib.rune_le s pos
      obtain ⟨R, hR⟩ : ∃ R, (Utf8.decode s pos).1 = R := ⟨_, rfl⟩
      obtain ⟨K, hK⟩ : ∃ K, (Utf8.decode s pos).2 = K := ⟨_, rfl⟩
      simp only [wroL, hp, if_true, hR, hK] at hleft
      rw [hR, hK] at hnx
      rw [hR] at hr1
      rw [hK] at hwd
      have hit2 := Lib.iterAt_heap wr w.heap.size s pos (pos + K) hit
      have hbw2 := Lib.below_iterAt hbw (k := w.heap.size) (Nat.le_refl _) s (pos + K)
      obtain ⟨W, hWd⟩ : ∃ W, wr.iterAt w.heap.size s (pos + K) = W := ⟨_, rfl⟩
      rw [hWd] at hnx hit2 hbw2
      have cS := Tryz.utf8_DecodeRuneInString (s.extract pos s.size) W (tabs_below hT hbw2 h1 h2)
      have hWs : w.heap.size < W.heap.size := (Array.getElem?_eq_some_iff.1 hit2).1
      obtain ⟨D, hD⟩ : ∃ D, (Lib.decodeGo (s.extract pos s.size)).2 = D := ⟨_, rfl⟩
      rw [hD] at hleft cS
      by_cases hR2 : R = 65533
      · subst hR2
        by_cases hD2 : D < 2
        · rw [if_pos ⟨rfl, hD2⟩] at hleft
          have hD3 : (D : Int) < 2 := by omega
          replace hleft := hleft.symm
          go_wp2_with (go_at_call 142; go_fit cS; rintro e W' ⟨rfl, hb⟩)
          go_ret
          exact ⟨by simp [hleft], hbw2.trans (hb.mono (by omega))⟩
        · rw [if_neg (by omega)] at hleft
          have hD3 : ¬ (D : Int) < 2 := by omega
          go_wp2_with (go_at_call 142; go_fit cS; rintro e W' ⟨rfl, hb⟩)
          go_roundg g
          case measure => omega
          case rel => exact ⟨pos + K, (hb.block w.heap.size hWs).trans hit2, hbw2.trans (hb.mono (by omega)), hleft, by omega⟩
      · rw [if_neg (by omega)] at hleft
        have hR3 : (R : Int) ≠ 65533 := by omega
        go_wp2_with (go_at_call 142; go_fit cS; rintro e W' ⟨rfl, hb⟩)
        go_roundg g
        case measure => omega
        case rel => exact ⟨pos + K, (hb.block w.heap.size hWs).trans hit2, hbw2.trans (hb.mono (by omega)), hleft, by omega⟩
    · have hnx : ∀ ty, (Instr.next (.pointer (some ⟨w.heap.size, 0, none⟩)) true ty).run Tryz.prog wr = _ := fun ty => Lib.run_next_end_at wr w.heap.size s pos ty hit hp
      rw [wroL_end s gk pos hp] at hleft
      go_wp2
      go_ret
      exact ⟨by rw [← hleft] <;> rfl, hbw⟩
end Go.Proofs.YtijdnjngfkohfaaGreatDoor

namespace Go.Proofs.YtijdnjngfkohfaaGreatDoor
open Go Go.Abs
attribute [local irreducible] DrawW CallW RetW AC Does CmpW
set_option maxRecDepth 100000
variable {G : Globs}
structure Fnd where
  c0 : Bool
  c1 : Bool
  c2 : Bool
  c3 : Bool
  c4 : Bool
  c5 : Bool
def rro (ver : Nat) (s : List UInt8) (a n : Nat) (F : Fnd) : AObj := ⟨ver, 204, 9, [[.str s, .int .i64 a, .int .i64 n, .bool F.c0, .bool F.c1, .bool F.c2, .bool F.c3, .bool F.c4, .bool F.c5]]⟩
def rfault (r : Int × Nat) : AV := .iface 200 (.agg [.int .i64 r.1, .int .i64 r.2])
theorem rfail_does (e : Int) (a : Nat) : Does Tryz.prog G 177 [.int .i64 e, .int .i64 a] [] fun ae O => ae = .panic (rfault (e, a)) ∧ O = [] := by
  refine Does.body tab Tryz.func177 rfl rfl ?_
  refine gos ?_
  exact ⟨Nat.le_refl _, rfl, rfl⟩
theorem blanks_does (s : List UInt8) (a n : Nat) (F : Fnd) (ha : a ≤ s.length) (hs : s.length < 100000) (ver : Nat) :
    Does Tryz.prog G 215 [.ptr 0 ver 0 0] [some (rro ver s a n F)] fun ae O => ae = .ret (.tuple []) ∧ O = [some (rro ver s (bl s a) n F)] := by
  refine Does.body tab Tryz.func215 rfl rfl ?_
  refine gos ?_
  refine AC.loopC tab (fun f e h => ∃ k, s.length < f + (a + k) ∧ a + k ≤ s.length ∧ k ≤ tw s (fun c => c == 32) a ∧ e = [.ptr 0 ver 0 0] ++ List.replicate 30 .any ∧ h = [some (rro ver s (a + k) n F)]) (s.length + 1) ⟨_, fgts, 0, by omega, by omega, by omega, rfl, rfl⟩ ?_
  rintro f e h ⟨k, hf, hk, hkt, rfl, rfl⟩
  refine gos ?_
  refine DrawW.L ?_
  refine gos ?_
  by_cases hlt : a + k < s.length
  · obtain ⟨c, hc⟩ : ∃ c, s[a + k]? = some c := ⟨_, List.getElem?_eq_getElem hlt⟩
    refine CmpW.t (by simp; omega) ?_
    refine gos ?_
    refine And.intro (by omega) ⟨c, hc, ?_⟩
    refine gos ?_
    by_cases h32 : c = 32
    · subst h32
      refine CmpW.t (by simp) ?_
      refine gos ?_
      refine ⟨f - 1, _, 1, by omega, fgts, k + 1, by omega, by omega, tw_go hkt hc rfl, rfl, rfl⟩
    · refine CmpW.f (by simp; exact fun h => h32 (u8_of h rfl)) ?_
      refine gos ?_
      have : bl s a = a + k := by unfold bl; rw [← tw_stop hkt fun d hd => by rw [hc] at hd; cases hd; simpa using h32]
      rw [this]
      refine RetW.plain (by simp) ?_
      exact ⟨rfl, rfl⟩
  · refine CmpW.f (by simp; omega) ?_
    refine gos ?_
    have : bl s a = a + k := by unfold bl; rw [← tw_stop hkt fun d hd => by rw [List.getElem?_eq_none (by omega)] at hd; cases hd]
    rw [this]
    refine RetW.plain (by simp) ?_
    exact ⟨rfl, rfl⟩
def pk (s : List UInt8) (a : Nat) : Nat := match s[bl s a]? with | some c => c.toNat | none => 0
theorem peek_does (s : List UInt8) (a n : Nat) (F : Fnd) (ha : a ≤ s.length) (hs : s.length < 100000) (ver : Nat) :
    Does Tryz.prog G 174 [.ptr 0 ver 0 0] [some (rro ver s a n F)] fun ae O => ae = .ret (.int .u8 (pk s a)) ∧ O = [some (rro ver s (bl s a) n F)] := by
  refine Does.body tab Tryz.func174 rfl rfl ?_
  refine gos ?_
  refine CallW.meth 0 (blanks_does s a n F ha hs ver) rfl rfl rfl rfl rfl rfl ?_
  refine gos ?_
  refine DrawW.L ?_
  refine gos ?_
  have hb := bl_le ha
  by_cases hlt : bl s a < s.length
  · obtain ⟨c, hc⟩ : ∃ c, s[bl s a]? = some c := ⟨_, List.getElem?_eq_getElem hlt⟩
    refine CmpW.f (by simp; omega) ?_
    refine gos ?_
    refine DrawW.L ?_
    refine gos ?_
    refine And.intro (by omega) ⟨c, hc, ?_⟩
    refine gos ?_
    refine RetW.plain (by simp) ?_
    simp only [pk, hc]
    exact ⟨trivial, rfl⟩
  · refine CmpW.t (by simp; omega) ?_
    refine gos ?_
    refine RetW.plain (by simp) ?_
    simp only [pk, List.getElem?_eq_none (show s.length ≤ bl s a by omega)]
    exact ⟨rfl, rfl⟩
theorem take_does (s t : List UInt8) (a n : Nat) (F : Fnd) (ha : a ≤ s.length) (hs : s.length < 100000) (ver : Nat) :
    Does Tryz.prog G 176 [.ptr 0 ver 0 0, .str t] [some (rro ver s a n F)] fun ae O => ae = .ret (.bool (pre s (bl s a) t)) ∧ O = [some (rro ver s (if pre s (bl s a) t then bl s a + t.length else bl s a) n F)] := by
  refine Does.body tab Tryz.func176 rfl rfl ?_
  refine gos ?_
  refine CallW.meth 0 (blanks_does s a n F ha hs ver) rfl rfl rfl rfl rfl rfl ?_
  refine gos ?_
  refine DrawW.L ?_
  have hb := bl_le ha
  refine gos ?_
  refine And.intro (And.intro (by omega) (by omega)) ?_
  refine CallW.pure (HasPrefix_does G _ _) rfl rfl ?_
  have h' : t.isPrefixOf (s.drop (bl s a : Int).toNat) = pre s (bl s a) t := rfl
  rw [h']
  cases hp : pre s (bl s a) t with
  | true =>
    have hle : bl s a + t.length ≤ s.length := by
      by_cases h0 : t = []
      · subst h0; simpa using hb.2
      · exact pre_le hp h0
    refine gos ?_
    refine RetW.plain (by simp) ?_
    simp only [if_true]
    exact ⟨trivial, rfl⟩
  | false =>
    refine gos ?_
    refine RetW.plain (by simp) ?_
    exact ⟨rfl, rfl⟩
theorem want_does (s t : List UInt8) (a n : Nat) (F : Fnd) (ha : a ≤ s.length) (hs : s.length < 100000) (ver : Nat) :
    Does Tryz.prog G 218 [.ptr 0 ver 0 0, .str t] [some (rro ver s a n F)] fun ae O => match pre s (bl s a) t with
      | true => ae = .ret (.tuple []) ∧ O = [some (rro ver s (bl s a + t.length) n F)]
      | false => ae = .panic (rfault (1, bl s a)) := by
  refine Does.body tab Tryz.func218 rfl rfl ?_
  refine gos ?_
  refine CallW.meth 0 (take_does s t a n F ha hs ver) rfl rfl rfl rfl rfl rfl ?_
  cases hp : pre s (bl s a) t with
  | true =>
    simp only [if_true]
    refine gos ?_
    refine RetW.plain (by simp) ?_
    exact ⟨rfl, rfl⟩
  | false =>
    simp only [Bool.false_eq_true, if_false]
    refine gos ?_
    refine CallW.of0 (rfail_does 1 (bl s a)) rfl ?_
    rintro ae ⟨rfl, _⟩
    refine ⟨rfl, ?_⟩
    refine gos ?_
    exact ⟨by simp, rfl⟩
theorem run_does (s : List UInt8) (lo hi : UInt8) (a n : Nat) (F : Fnd) (ha : a ≤ s.length) (hs : s.length < 100000) (ver : Nat) :
    Does Tryz.prog G 249 [.ptr 0 ver 0 0, .int .u8 lo.toNat, .int .u8 hi.toNat] [some (rro ver s a n F)] fun ae O => ae = .ret (.int .i64 (tw s (fun c => lo ≤ c && c ≤ hi) a)) ∧ O = [some (rro ver s a n F)] := by
  refine Does.body tab Tryz.func249 rfl rfl ?_
  refine gos ?_
  refine AC.loopC tab (fun f e h => ∃ k : Nat, s.length < f + (a + k) ∧ a + k ≤ s.length ∧ k ≤ tw s (fun c => lo ≤ c && c ≤ hi) a ∧ e = [.ptr 0 ver 0 0, .int .u8 lo.toNat, .int .u8 hi.toNat, .any, .any, .any, .any, .int .i64 k] ++ List.replicate 45 .any ∧ h = [some (rro ver s a n F)]) (s.length + 1) ⟨_, fgts, 0, by omega, by omega, by omega, rfl, rfl⟩ ?_
  rintro f e h ⟨k, hf, hk, hkt, rfl, rfl⟩
  refine gos ?_
  refine DrawW.L ?_
  refine gos ?_
  have stop : (∀ d, s[a + k]? = some d → (lo ≤ d && d ≤ hi) = false) → k = tw s (fun c => lo ≤ c && c ≤ hi) a := tw_stop hkt
  by_cases hlt : a + k < s.length
  · obtain ⟨c, hc⟩ : ∃ c, s[a + k]? = some c := ⟨_, List.getElem?_eq_getElem hlt⟩
    refine CmpW.t (by simp; omega) ?_
    refine gos ?_
    refine And.intro (by omega) ⟨c, hc, ?_⟩
    refine gos ?_
    by_cases h1 : lo ≤ c
    · have h1' : lo.toNat ≤ c.toNat := h1
      refine CmpW.t (by simp; omega) ?_
      refine gos ?_
      refine And.intro (by omega) ⟨c, hc, ?_⟩
      refine gos ?_
      by_cases h2 : c ≤ hi
      · have h2' : c.toNat ≤ hi.toNat := h2
        refine CmpW.t (by simp; omega) ?_
        refine gos ?_
        refine ⟨f - 1, _, 1, by omega, fgts, k + 1, by omega, by omega, tw_go hkt hc (by simp [h1, h2]), rfl, rfl⟩
      · have h2' : ¬ c.toNat ≤ hi.toNat := h2
        refine CmpW.f (by simp; omega) ?_
        refine gos ?_
        rw [← stop fun d hd => by rw [hc] at hd; cases hd; simp [h2]]
        refine RetW.plain (by simp) ?_
        exact ⟨rfl, rfl⟩
    · have h1' : ¬ lo.toNat ≤ c.toNat := h1
      refine CmpW.f (by simp; omega) ?_
      refine gos ?_
      rw [← stop fun d hd => by rw [hc] at hd; cases hd; simp [h1]]
      refine RetW.plain (by simp) ?_
      exact ⟨rfl, rfl⟩
  · refine CmpW.f (by simp; omega) ?_
    refine gos ?_
    rw [← stop fun d hd => by rw [List.getElem?_eq_none (by omega)] at hd; cases hd]
    refine RetW.plain (by simp) ?_
    exact ⟨rfl, rfl⟩
def wd (s : List UInt8) (a : Nat) : List UInt8 := (s.drop (bl s a)).takeWhile fun c => 97 ≤ c && c ≤ 122
theorem word_does (s : List UInt8) (a n : Nat) (F : Fnd) (ha : a ≤ s.length) (hs : s.length < 100000) (ver : Nat) :
    Does Tryz.prog G 216 [.ptr 0 ver 0 0] [some (rro ver s a n F)] fun ae O => ae = .ret (.str (wd s a)) ∧ O = [some (rro ver s (bl s a) n F)] := by
  refine Does.body tab Tryz.func216 rfl rfl ?_
  refine gos ?_
  refine CallW.meth 0 (blanks_does s a n F ha hs ver) rfl rfl rfl rfl rfl rfl ?_
  refine gos ?_
  have hb := bl_le ha
  have hw := tw_le (fun c => (97 : UInt8) ≤ c && c ≤ 122) hb.2
  have hr := run_does (G := G) s 97 122 (bl s a) n F hb.2 hs ver
  refine DrawW.P (.take 0 (.take 1 (.take 2 (.take 4 (.take 5 (.take 6 (.take 8 (.take 9 (.take 10 (.take 12 (.fork (.cons 3 (.fork (.cons 7 (.fork (.cons 11 (.take 13 (.take 14 (.take 15 (.take 16 .done)))) (.cons 13 (.take 11 (.take 14 (.take 15 (.take 16 .done)))) .nil))) (.cons 11 (.fork (.cons 7 (.take 13 (.take 14 (.take 15 (.take 16 .done)))) (.cons 13 (.take 7 (.take 14 (.take 15 (.take 16 .done)))) .nil))) (.cons 13 (.take 7 (.take 11 (.take 14 (.take 15 (.take 16 .done))))) .nil)))) (.cons 7 (.fork (.cons 3 (.fork (.cons 11 (.take 13 (.take 14 (.take 15 (.take 16 .done)))) (.cons 13 (.take 11 (.take 14 (.take 15 (.take 16 .done)))) .nil))) (.cons 11 (.fork (.cons 3 (.take 13 (.take 14 (.take 15 (.take 16 .done)))) (.cons 13 (.take 3 (.take 14 (.take 15 (.take 16 .done)))) .nil))) (.cons 13 (.take 3 (.take 11 (.take 14 (.take 15 (.take 16 .done))))) .nil)))) (.cons 11 (.fork (.cons 3 (.fork (.cons 7 (.take 13 (.take 14 (.take 15 (.take 16 .done)))) (.cons 13 (.take 7 (.take 14 (.take 15 (.take 16 .done)))) .nil))) (.cons 7 (.fork (.cons 3 (.take 13 (.take 14 (.take 15 (.take 16 .done)))) (.cons 13 (.take 3 (.take 14 (.take 15 (.take 16 .done)))) .nil))) (.cons 13 (.take 3 (.take 7 (.take 14 (.take 15 (.take 16 .done))))) .nil)))) (.cons 13 (.take 3 (.take 7 (.take 11 (.take 14 (.take 15 (.take 16 .done)))))) .nil))))))))))))))) ?_
  (repeat' (first | exact trivial | refine gon ?_ | refine CallW.meth 0 hr rfl rfl rfl rfl rfl rfl ?_ | refine And.intro (And.intro (by omega) (And.intro (by omega) (by omega))) ?_ | refine And.intro ?_ ?_))
  all_goals
    refine RetW.plain (by simp) ?_
    refine ⟨?_, rfl⟩
    rw [show ((bl s a : Int) + (tw s (fun c => (97 : UInt8) ≤ c && c ≤ 122) (bl s a) : Int)).toNat = bl s a + tw s (fun c => (97 : UInt8) ≤ c && c ≤ 122) (bl s a) by omega, Int.toNat_natCast, tw_text]
    rfl
end Go.Proofs.YtijdnjngfkohfaaGreatDoor
