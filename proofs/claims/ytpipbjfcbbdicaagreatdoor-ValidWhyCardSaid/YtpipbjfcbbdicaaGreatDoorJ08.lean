/- The reader of patterns: numbers. -/
import Derived.Test.YtpipbjfcbbdicaaGreatDoorJ07
set_option linter.unusedVariables false
set_option linter.unusedSimpArgs false
set_option maxRecDepth 100000
set_option maxHeartbeats 4000000

namespace Go.Proofs.YtpipbjfcbbdicaaGreatDoor
open Go Go.Abs
attribute [local irreducible] DrawW CallW RetW AC Does CmpW
set_option maxRecDepth 100000

theorem curN_le (s : List UInt8) : ∀ f a, a ≤ s.length → a + 2 * curN s f a ≤ s.length
  | 0, a, h => by simp [curN]; exact h
  | f + 1, a, h => by
    unfold curN
    split
    · rename_i hp
      have h1 := pre_le hp (by simp)
      simp only [List.length_cons, List.length_nil] at h1
      have := curN_le s f (a + 2) (by omega)
      omega
    · simpa using h
theorem signF_t {s : List UInt8} {a : Nat} (ha : a ≤ s.length) (h : (signF s a).2.1 = true) : a < (signF s a).2.2 ∧ (signF s a).2.2 ≤ s.length ∧ (signF s a).1.text = [] := by
  unfold signF at *
  split
  · rename_i hp; have h1 := pre_le hp (by simp); simp only [List.length_cons, List.length_nil] at h1; exact ⟨by simp, by omega, rfl⟩
  split
  · rename_i hp; have h1 := pre_le hp (by simp); simp only [List.length_cons, List.length_nil] at h1; exact ⟨by simp, by omega, rfl⟩
  split
  · rename_i hp; have h1 := pre_le hp (by simp); simp only [List.length_cons, List.length_nil] at h1; exact ⟨by simp, by omega, rfl⟩
  split
  · rename_i hp; have h1 := pre_le hp (by simp); simp only [List.length_cons, List.length_nil] at h1; exact ⟨by simp, by omega, rfl⟩
  rename_i h1 h2 h3 h4
  simp only [h1, h2, h3, h4, if_false, Bool.false_eq_true] at h
  have := curN_le s s.length a ha
  simp at h
  exact ⟨by simp; omega, this, rfl⟩
theorem signF_f {s : List UInt8} {a : Nat} (h : (signF s a).2.1 = false) : (signF s a).2.2 = a := by
  unfold signF at *
  split at h; · simp at h
  split at h; · simp at h
  split at h; · simp at h
  split at h; · simp at h
  rename_i h1 h2 h3 h4
  simp only [h1, h2, h3, h4, if_false, Bool.false_eq_true]
  simp at h
  omega
theorem quoL_le (s : List UInt8) : ∀ f a acc t b, a ≤ s.length → quoL s f a acc = some (t, b) → a < b ∧ b ≤ s.length ∧ t.length + a < acc.length + b
  | 0, a, acc, t, b, _, h => by simp [quoL] at h
  | f + 1, a, acc, t, b, ha, h => by
    unfold quoL at h
    split at h
    · cases h
    split at h
    · rename_i hp
      have h1 := pre_le hp (by simp)
      simp only [List.length_cons, List.length_nil] at h1
      have := quoL_le s f (a + 2) _ t b (by omega) h
      simp at this; omega
    split at h
    · rename_i hp
      have h1 := pre_le hp (by simp)
      simp only [List.length_cons, List.length_nil] at h1
      simp at h
      obtain ⟨rfl, rfl⟩ := h
      omega
    · have := quoL_le s f (a + 1) _ t b (by omega) h
      simp at this; omega
theorem quoF_le {s : List UInt8} {a : Nat} {t : List UInt8} {b : Nat} (ha : a ≤ s.length) (h : quoF s a = some (t, b)) : a < b ∧ b ≤ s.length ∧ t.length + a ≤ b := by
  unfold quoF at h
  split at h
  · rename_i hp
    have h1 := pre_le hp (by simp)
    simp only [List.length_cons, List.length_nil] at h1
    simp at h
    obtain ⟨rfl, rfl⟩ := h
    simp; omega
  · have := quoL_le s _ a [] t b ha h
    simp at this; omega
theorem litF_t {s : List UInt8} {a : Nat} {t : List UInt8} {b : Nat} (ha : a ≤ s.length) (h : litF s a = some ((t, true), b)) : a < b ∧ b ≤ s.length ∧ t.length + a ≤ b := by
  unfold litF at h
  split at h
  · rename_i hp
    have h1 := pre_le hp (by simp)
    simp only [List.length_cons, List.length_nil] at h1
    cases h2 : quoF s (a + 1) with
    | none => rw [h2] at h; simp at h
    | some r =>
      rw [h2] at h
      simp at h
      obtain ⟨rfl, rfl⟩ := h
      have := quoF_le (t := r.1) (b := r.2) (by omega) h2
      omega
  split at h
  · simp at h
  · rename_i hp
    simp only [not_or] at hp
    simp at h
    obtain ⟨rfl, rfl⟩ := h
    have h1 := dec_le (s.drop a)
    have h2 := dec_pos (s.drop a) (by intro e; have := congrArg List.length e; simp at this; omega)
    simp only [List.length_drop] at h1
    simp; omega
theorem litF_f {s : List UInt8} {a : Nat} {t : List UInt8} {b : Nat} (h : litF s a = some ((t, false), b)) : b = a := by
  unfold litF at h
  split at h
  · cases h2 : quoF s (a + 1) with
    | none => rw [h2] at h; simp at h
    | some r => rw [h2] at h; simp at h
  split at h
  · simp at h; exact h.2.symm
  · simp at h

/-- More text. -/
def more (out : List Piece) (t : List UInt8) : List Piece := match out.getLast? with
  | some p => if p.kind = 0 then out.dropLast ++ [{ p with text := p.text ++ t }] else out ++ [⟨0, t, 0⟩]
  | none => [⟨0, t, 0⟩]
/-- The pieces, and where they end; or where it gives up. -/
def affL (s : List UInt8) : Nat → Nat → List Piece → Option (List Piece × Nat)
  | 0, _, _ => none
  | f + 1, a, out => if (signF s a).2.1 then affL s f (signF s a).2.2 (out ++ [(signF s a).1]) else match litF s a with
    | none => none
    | some ((t, ok), b) => if !ok then some (out, b) else if t = [] then affL s f b out else affL s f b (more out t)
def affF (s : List UInt8) (a : Nat) : Option (List Piece × Nat) := affL s (s.length + 1 - a) a []
def affP (s : List UInt8) (ver : Nat) (r : Option (List Piece × Nat)) (ae : AEnd) (O : AHeap) : Prop := match r with
  | some (ps, b) => ae = .ret (.fsl (ps.map encP)) ∧ O = [some (rdr ver s b)]
  | none => ae = .panic (faultV s.length) ∧ O = [some (rdr ver s s.length)]

theorem encs_closed : ∀ out : List Piece, closedLL (out.map encP) = true
  | [] => rfl
  | p :: out => by
    have := encs_closed out
    simp [closedLL, encP, closedL, closed, this]
theorem snoc_cases {α : Type} (l : List α) : l = [] ∨ ∃ i p, l = i ++ [p] := by
  rcases List.eq_nil_or_concat l with h | ⟨i, p, h⟩
  · exact .inl h
  · exact .inr ⟨i, p, by rw [h]; simp⟩
theorem affix_does {m : Int} (s : List UInt8) (a : Nat) (ha : a ≤ s.length) (hs : s.length < 1000000) (ver : Nat) :
    Does Tryz.prog (GL m) 114 [.ptr 0 ver 0 0] [some (rdr ver s a)] (affP s ver (affF s a)) := by
  refine Does.body tab Tryz.func114 rfl rfl ?_
  refine gos ?_
  refine AC.own 3 190 3 rfl (by decide) fun v1 => ?_
  refine AC.loopC tab (fun n e h => ∃ b out rv, s.length < n + b ∧ b ≤ s.length ∧ out.length ≤ b ∧ (∀ p ∈ out, p.text.length ≤ b) ∧ affF s a = affL s n b out ∧ e = [.ptr 0 ver 0 0, .any, .any, .sl 1 rv] ++ List.replicate 56 .any ∧
    h = [some (rdr ver s b), some ⟨rv, 190, 3, out.map encP⟩]) (s.length + 1 - a) ⟨_, fgts, a, [], v1, by omega, ha, by simp, by simp, rfl, rfl, rfl⟩ ?_
  rintro n e h ⟨b, out, rv, hn, hb, hol, hot, hq, rfl, rfl⟩
  obtain ⟨n, rfl⟩ : ∃ m, n = m + 1 := ⟨n - 1, by omega⟩
  simp only [affL] at hq
  refine gos ?_
  refine CallW.meth 0 (sign_does s b hb (by omega) ver) rfl rfl rfl rfl rfl rfl ?_
  refine gos ?_
  intro v2
  refine gos ?_
  cases hsg : (signF s b).2.1 with
  | true =>
    obtain ⟨q1, q2, q3⟩ := signF_t hb hsg
    rw [if_pos hsg] at hq
    refine gos ?_
    intro v3
    refine gos ?_
    refine And.intro (And.intro (fun y hy => by rcases List.mem_singleton.1 hy with rfl; rfl) (fun y hy => by rcases List.mem_singleton.1 hy with rfl; rfl)) ?_; refine And.intro (And.intro rfl trivial) ?_
    refine gos ?_
    refine And.intro (by simp [maxLen, ti190]; omega) ?_
    intro v4
    refine gos ?_
    refine ⟨n, _, 2, by omega, fgts, (signF s b).2.2, out ++ [(signF s b).1], v4, by omega, q2, by simp; omega, ?_, hq, rfl, ?_⟩
    · intro p hp
      rcases List.mem_append.1 hp with hp | hp
      · have := hot p hp; omega
      · rcases List.mem_singleton.1 hp with rfl
        rw [q3]; simp
    · rw [List.map_append]; rfl
  | false =>
    have q1 := signF_f hsg
    rw [if_neg (by simp [hsg])] at hq
    rw [q1]
    refine gos ?_
    refine CallW.of1 0 (literal_does s b hb hs ver) rfl rfl rfl rfl ?_
    intro ae O hlit
    cases hl : litF s b with
    | none =>
      rw [hl] at hq hlit
      obtain ⟨rfl, rfl⟩ := hlit
      refine ⟨_, rfl, rfl, rfl, ?_⟩
      refine gos ?_
      refine ⟨by simp, ?_⟩
      rw [hq]
      exact ⟨rfl, rfl⟩
    | some r =>
      obtain ⟨⟨t, ok⟩, b'⟩ := r
      rw [hl] at hq hlit
      obtain ⟨rfl, rfl⟩ := hlit
      refine ⟨_, rfl, rfl, rfl, ?_⟩
      refine gos ?_
      cases ok with
      | false =>
        have q2 := litF_f hl
        subst q2
        simp only [Bool.not_false, if_true] at hq
        refine gos ?_
        refine RetW.wk (by simp) ?_ (Wk.row (k := 0) (i := 1) rfl rfl rfl ?_) ?_
        · rfl
        · exact encs_closed out
        · rw [hq]; exact ⟨rfl, rfl⟩
      | true =>
        obtain ⟨r1, r2, r3⟩ := litF_t hb hl
        simp only [Bool.not_true, Bool.false_eq_true, if_false] at hq
        refine gos ?_
        by_cases ht : t = []
        · rw [if_pos ht] at hq
          subst ht
          refine CmpW.t rfl ?_
          refine gos ?_
          refine ⟨n, _, 2, by omega, fgts, b', out, rv, by omega, r2, by omega, fun p hp => by have := hot p hp; omega, hq, rfl, rfl⟩
        · rw [if_neg ht] at hq
          refine CmpW.f (by simpa using ht) ?_
          refine gos ?_
          rcases snoc_cases out with rfl | ⟨init, p, rfl⟩
          · refine CmpW.f (by rfl) ?_
            refine gos ?_
            intro v3
            refine gos ?_
            refine And.intro (And.intro (fun y hy => by rcases List.mem_singleton.1 hy with rfl; rfl) (fun y hy => by rcases List.mem_singleton.1 hy with rfl; rfl)) ?_; refine And.intro (And.intro rfl trivial) ?_
            refine gos ?_
            intro v4
            refine gos ?_
            refine ⟨n, _, 2, by omega, fgts, b', [⟨0, t, 0⟩], v4, by omega, r2, by simp; omega, ?_, hq, rfl, rfl⟩
            intro p hp
            rcases List.mem_singleton.1 hp with rfl
            show t.length ≤ b'
            omega
          · have hol' : init.length + 1 ≤ b := by simpa using hol
            have hpt : p.text.length ≤ b := hot p (by simp)
            refine CmpW.t (by simp) ?_
            refine gos ?_
            refine And.intro (by simp; omega) ?_
            refine gos ?_
            refine Exists.intro (encP p) (And.intro (by simp) ?_)
            refine gos ?_
            by_cases hk : p.kind = 0
            · have hm : more (init ++ [p]) t = init ++ [{ p with text := p.text ++ t }] := by simp [more, hk]
              rw [hm] at hq
              refine CmpW.t (by simp [hk]) ?_
              refine gos ?_
              refine And.intro (by simp; omega) ?_
              refine gos ?_
              refine Exists.intro (encP p) (And.intro (by simp) ?_)
              refine gos ?_
              refine And.intro (by simp; omega) ?_
              refine gos ?_
              refine And.intro (by simp; omega) ?_
              refine gos ?_
              refine Exists.intro (encP p) (And.intro (by simp) ?_)
              refine gos ?_
              refine ⟨n, _, 2, by omega, fgts, b', _, rv, by omega, r2, by simp; omega, ?_, hq, rfl, ?_⟩
              · intro y hy
                rcases List.mem_append.1 hy with hy | hy
                · have := hot y (by simp [hy]); omega
                · rcases List.mem_singleton.1 hy with rfl
                  simp; omega
              · simp [encP, rdr]
            · have hm : more (init ++ [p]) t = init ++ [p] ++ [⟨0, t, 0⟩] := by simp [more, hk]
              rw [hm] at hq
              refine CmpW.f (by simpa using hk) ?_
              refine gos ?_
              intro v3
              refine gos ?_
              refine And.intro (And.intro (fun y hy => by rcases List.mem_singleton.1 hy with rfl; rfl) (fun y hy => by rcases List.mem_singleton.1 hy with rfl; rfl)) ?_; refine And.intro (And.intro rfl trivial) ?_
              refine gos ?_
              refine And.intro (by simp [maxLen, ti190]; omega) ?_
              intro v4
              refine gos ?_
              refine ⟨n, _, 2, by omega, fgts, b', _, v4, by omega, r2, by simp; omega, ?_, hq, rfl, ?_⟩
              · intro y hy
                rcases List.mem_append.1 hy with hy | hy
                · have := hot y hy; omega
                · rcases List.mem_singleton.1 hy with rfl
                  show t.length ≤ b'
                  omega
              · simp [encP, rdr, ti190]
end Go.Proofs.YtpipbjfcbbdicaaGreatDoor

namespace Go.Proofs.YtpipbjfcbbdicaaGreatDoor
open Go Go.Abs
attribute [local irreducible] DrawW CallW RetW AC Does CmpW
set_option maxRecDepth 100000
variable {G : Globs}

structure Num where
  hash : Nat
  mi : Nat
  mnf : Nat
  mxf : Nat
  g : Nat
  m : Nat
def Num.zero : Num := ⟨0, 0, 0, 0, 0, 0⟩
structure Aff where
  a : AV
  b : AV
  c : AV
  d : AV
def Aff.ok (x : Aff) : Prop := closed x.a = true ∧ closed x.b = true ∧ closed x.c = true ∧ closed x.d = true
def patCells (x : Aff) (two : Bool) (N : Num) : List AV := [x.a, x.b, x.c, x.d, .bool two, .int .i64 N.hash, .int .i64 N.mi, .int .i64 N.mnf, .int .i64 N.mxf, .int .i64 N.g, .int .i64 N.m]
def patO (pv : Nat) (x : Aff) (two : Bool) (N : Num) : AObj := ⟨pv, 107, 11, [patCells x two N]⟩
theorem patO_closed {pv : Nat} {x : Aff} {two : Bool} {N : Num} (h : x.ok) : closedLL (patO pv x two N).es = true := by
  obtain ⟨h1, h2, h3, h4⟩ := h
  simp [patO, patCells, closedLL, closedL, h1, h2, h3, h4, closed]
def ints (cs : List Nat) : List (List AV) := cs.map fun (c : Nat) => [.int .i64 (c : Int)]
def intO (cv : Nat) (cs : List Nat) : AObj := ⟨cv, 3, 1, ints cs⟩
@[simp] theorem intO_len (cv : Nat) (cs : List Nat) : (intO cv cs).es.length = cs.length := by simp [intO, ints]
theorem intO_closed (cv : Nat) : ∀ cs : List Nat, closedLL (intO cv cs).es = true
  | [] => rfl
  | c :: cs => by
    have := intO_closed cv cs
    simp only [intO, ints] at this
    simp [intO, ints, closedLL, closedL, closed, this]

/-- How long groups are. -/
def grpF (places : Nat) (cs : List Nat) (N : Num) : Option Num :=
  if places = 0 then none else match cs with
    | [] => some N
    | [c] => if places = c then none else some { N with g := places - c }
    | [c, d] => if places = d then none else if d - c = places - d then some { N with g := places - d } else some { N with g := places - d, m := d - c }
    | _ => none

theorem groups_does (s : List UInt8) (a ver pv cv places : Nat) (x : Aff) (hx : x.ok) (two : Bool) (N : Num) (cs : List Nat) (hp : places < 1000000) (hc : cs.length ≤ 2) (h1 : ∀ c ∈ cs, c ≤ places) (h2 : ∀ c d, cs = [c, d] → c ≤ d) :
    Does Tryz.prog G 156 [.ptr 0 ver 0 0, .ptr 1 pv 0 0, .int .i64 places, .sl 2 cv] [some (rdr ver s a), some (patO pv x two N), some (intO cv cs)] fun ae O => match grpF places cs N with
      | none => ae = .panic (faultV a)
      | some N' => ae = .ret (.tuple []) ∧ O = [some (rdr ver s a), some (patO pv x two N'), some (intO cv cs)] := by
  refine Does.body tab Tryz.func156 rfl rfl ?_
  refine gos ?_
  by_cases h0 : places = 0
  · refine CmpW.t (by simpa using h0) ?_
    refine gos ?_
    refine CallW.of1 0 (fail_does s a ver) rfl rfl rfl rfl ?_
    rintro ae O ⟨rfl, rfl⟩
    refine ⟨_, rfl, rfl, rfl, ?_⟩
    refine gos ?_
    refine ⟨by simp, ?_⟩
    simp [grpF, h0]
  · refine CmpW.f (by simpa using h0) ?_
    refine gos ?_
    match cs, hc with
    | [], _ =>
      refine gos ?_
      refine RetW.plain (by simp) ?_
      simp [grpF, h0]
    | [c], _ =>
      have hc1 := h1 c (by simp)
      refine gos ?_
      refine And.intro (by simp) ?_
      refine gos ?_
      have e1 : (places : Int) - (c : Int) = ((places - c : Nat) : Int) := by omega
      rw [e1]
      by_cases hg : places = c
      · refine CmpW.t (by simp; omega) ?_
        refine gos ?_
        refine CallW.of1 0 (fail_does s a ver) rfl rfl rfl rfl ?_
        rintro ae O ⟨rfl, rfl⟩
        refine ⟨_, rfl, rfl, rfl, ?_⟩
        refine gos ?_
        refine ⟨by simp, ?_⟩
        simp [grpF, h0, hg]
      · refine CmpW.f (by simp; omega) ?_
        refine gos ?_
        refine DrawW.L ?_
        refine gos ?_
        refine RetW.plain (by simp) ?_
        simp only [grpF, if_neg h0, if_neg hg]
        exact ⟨trivial, rfl⟩
    | [c, d], _ =>
      have hc1 := h1 c (by simp)
      have hd1 := h1 d (by simp)
      have hcd := h2 c d rfl
      refine gos ?_
      refine And.intro (by simp) ?_
      refine gos ?_
      have e1 : (places : Int) - (d : Int) = ((places - d : Nat) : Int) := by omega
      rw [e1]
      by_cases hg : places = d
      · refine CmpW.t (by simp; omega) ?_
        refine gos ?_
        refine CallW.of1 0 (fail_does s a ver) rfl rfl rfl rfl ?_
        rintro ae O ⟨rfl, rfl⟩
        refine ⟨_, rfl, rfl, rfl, ?_⟩
        refine gos ?_
        refine ⟨by simp, ?_⟩
        simp [grpF, h0, hg]
      · refine CmpW.f (by simp; omega) ?_
        refine gos ?_
        refine DrawW.L ?_
        refine gos ?_
        refine And.intro (by simp) ?_
        refine gos ?_
        have e2 : (d : Int) - (c : Int) = ((d - c : Nat) : Int) := by omega
        rw [e2]
        by_cases hm : d - c = places - d
        · refine CmpW.f (by simp; omega) ?_
          refine gos ?_
          refine RetW.plain (by simp) ?_
          simp only [grpF, if_neg h0, if_neg hg, if_pos hm]
          exact ⟨trivial, rfl⟩
        · refine CmpW.t (by simp; omega) ?_
          refine gos ?_
          refine And.intro (by simp) ?_
          refine gos ?_
          have e2 : (d : Int) - (c : Int) = ((d - c : Nat) : Int) := by omega
          rw [e2]
          refine gos ?_
          refine RetW.plain (by simp) ?_
          simp only [grpF, if_neg h0, if_neg hg, if_neg hm]
          exact ⟨trivial, rfl⟩
end Go.Proofs.YtpipbjfcbbdicaaGreatDoor

namespace Go.Proofs.YtpipbjfcbbdicaaGreatDoor
open Go Go.Abs
attribute [local irreducible] DrawW CallW RetW AC Does CmpW
set_option maxRecDepth 100000
variable {G : Globs}

/-- May a comma stand here? -/
def mayC (N : Num) (cs : List Nat) : Bool := match cs with
  | [] => decide (0 < N.hash + N.mi)
  | [c] => decide (c < N.hash + N.mi)
  | _ => false
def whoL (s : List UInt8) : Nat → Nat → Num → List Nat → Nat × Num × List Nat
  | 0, a, N, cs => (a, N, cs)
  | f + 1, a, N, cs =>
    if N.mi = 0 ∧ pre s a [35] = true then whoL s f (a + 1) { N with hash := N.hash + 1 } cs
    else if pre s a [48] then whoL s f (a + 1) { N with mi := N.mi + 1 } cs
    else if mayC N cs = true ∧ pre s a [44] = true then whoL s f (a + 1) N (cs ++ [N.hash + N.mi])
    else (a, N, cs)
def whoF (s : List UInt8) (a : Nat) (N : Num) : Option (Num × Nat) :=
  (grpF ((whoL s (s.length + 1 - a) a N []).2.1.hash + (whoL s (s.length + 1 - a) a N []).2.1.mi) (whoL s (s.length + 1 - a) a N []).2.2 (whoL s (s.length + 1 - a) a N []).2.1).map fun N' => (N', (whoL s (s.length + 1 - a) a N []).1)

theorem whoF_of {s : List UInt8} {a b : Nat} {N N' : Num} {cs : List Nat} (h : whoL s (s.length + 1 - a) a N [] = (b, N', cs)) : whoF s a N = (grpF (N'.hash + N'.mi) cs N').map fun q => (q, b) := by
  unfold whoF; rw [h]
theorem short_cases {cs : List Nat} (h : cs.length ≤ 2) : cs = [] ∨ (∃ c, cs = [c]) ∨ ∃ c d, cs = [c, d] := by
  match cs, h with
  | [], _ => exact .inl rfl
  | [c], _ => exact .inr (.inl ⟨c, rfl⟩)
  | [c, d], _ => exact .inr (.inr ⟨c, d, rfl⟩)
set_option maxHeartbeats 4000000 in
theorem whole_does (s : List UInt8) (a ver pv : Nat) (x : Aff) (hx : x.ok) (two : Bool) (N : Num) (ha : a ≤ s.length) (hs : s.length < 100000) (hN : N.hash = 0 ∧ N.mi = 0) :
    Does Tryz.prog G 142 [.ptr 0 ver 0 0, .ptr 1 pv 0 0] [some (rdr ver s a), some (patO pv x two N)] fun ae O => match whoF s a N with
      | none => ∃ b, ae = .panic (faultV b) ∧ b = (whoL s (s.length + 1 - a) a N []).1
      | some r => ae = .ret (.tuple []) ∧ O = [some (rdr ver s r.2), some (patO pv x two r.1)] := by
  obtain ⟨h0, m0, mnf, mxf, gg, mm⟩ := N
  obtain ⟨rfl, rfl⟩ : h0 = 0 ∧ m0 = 0 := hN
  refine Does.body tab Tryz.func142 rfl rfl ?_
  refine gos ?_
  intro v1
  refine gos ?_
  refine AC.loopC tab (fun n e h => ∃ b N' cs cv, s.length < n + b ∧ b ≤ s.length ∧ N'.hash + N'.mi ≤ b ∧ cs.length ≤ 2 ∧ (∀ c ∈ cs, c ≤ N'.hash + N'.mi) ∧ (∀ c d, cs = [c, d] → c ≤ d) ∧ whoL s (s.length + 1 - a) a ⟨0, 0, mnf, mxf, gg, mm⟩ [] = whoL s n b N' cs ∧
    e = [.ptr 0 ver 0 0, .ptr 1 pv 0 0, .any, .any, .int .i64 (N'.hash + N'.mi : Nat), .sl 2 cv] ++ List.replicate 68 .any ∧
    h = [some (rdr ver s b), some (patO pv x two N'), some (intO cv cs)]) (s.length + 1 - a) ⟨_, fgts, a, ⟨0, 0, mnf, mxf, gg, mm⟩, [], v1, by omega, ha, by simp, by simp, by simp, by simp, rfl, rfl, rfl⟩ ?_
  rintro n e h ⟨b, N', cs, cv, hn, hb, hpl, hcl, hc1, hc2, hq, rfl, rfl⟩
  obtain ⟨n, rfl⟩ : ∃ m, n = m + 1 := ⟨n - 1, by omega⟩
  simp only [whoL] at hq
  refine gos ?_
  by_cases h1 : N'.mi = 0 ∧ pre s b [35] = true
  · obtain ⟨h11, h12⟩ := h1
    rw [if_pos ⟨h11, h12⟩] at hq
    have hle := pre_le h12 (by simp)
    simp only [List.length_cons, List.length_nil] at hle
    refine CmpW.t (by simp [h11]) ?_
    refine gos ?_
    refine CallW.meth 0 (take_yes 1 rfl h12 hle (by omega) _) rfl rfl rfl rfl rfl rfl ?_
    refine gos ?_
    have e1 : ((N'.hash + N'.mi : Nat) : Int) + 1 = ((N'.hash + 1 + N'.mi : Nat) : Int) := by omega
    rw [e1]
    refine ⟨n, _, 3, by omega, fgts, b + 1, { N' with hash := N'.hash + 1 }, cs, cv, by omega, by omega, by simp; omega, hcl, fun c hc => by have := hc1 c hc; simp; omega, hc2, hq, rfl, rfl⟩
  · rw [if_neg h1] at hq
    have key : (N'.mi = 0 ∧ pre s b [35] = false) ∨ N'.mi ≠ 0 := by
      by_cases hm : N'.mi = 0
      · left
        refine ⟨hm, ?_⟩
        cases hp : pre s b [35] with
        | true => exact absurd ⟨hm, hp⟩ h1
        | false => rfl
      · exact .inr hm
    rcases key with ⟨k1, k2⟩ | k1
    case' inl =>
      refine CmpW.t (by simp [k1]) ?_
      refine gos ?_
      refine CallW.meth 0 (take_no k2 hb _) rfl rfl rfl rfl rfl rfl ?_
      refine gos ?_
    case' inr =>
      refine CmpW.f (by simpa using k1) ?_
      refine gos ?_
    all_goals
      cases h2 : pre s b [48] with
      | true =>
        rw [if_pos h2] at hq
        have hle := pre_le h2 (by simp)
        simp only [List.length_cons, List.length_nil] at hle
        refine CallW.meth 0 (take_yes 1 rfl h2 hle (by omega) _) rfl rfl rfl rfl rfl rfl ?_
        refine gos ?_
        refine ⟨n, _, 3, by omega, fgts, b + 1, { N' with mi := N'.mi + 1 }, cs, cv, by omega, by omega, by simp; omega, hcl, fun c hc => by have := hc1 c hc; simp; omega, hc2, hq, rfl, rfl⟩
      | false =>
        rw [if_neg (by simp [h2])] at hq
        refine CallW.meth 0 (take_no h2 hb _) rfl rfl rfl rfl rfl rfl ?_
        refine gos ?_
        rcases short_cases hcl with rfl | ⟨c, rfl⟩ | ⟨c, d, rfl⟩
        · by_cases hp0 : 0 < N'.hash + N'.mi
          · refine CmpW.t (by simp; omega) ?_
            refine gos ?_
            cases h3 : pre s b [44] with
            | true =>
              rw [if_pos ⟨by simpa [mayC] using hp0, h3⟩] at hq
              have hle := pre_le h3 (by simp)
              simp only [List.length_cons, List.length_nil] at hle
              refine CallW.meth 0 (take_yes 1 rfl h3 hle (by omega) _) rfl rfl rfl rfl rfl rfl ?_
              refine gos ?_
              intro v3
              refine gos ?_
              refine And.intro (And.intro (fun y hy => by rcases List.mem_singleton.1 hy with rfl; rfl) (fun y hy => by rcases List.mem_singleton.1 hy with rfl; rfl)) ?_; refine And.intro (And.intro rfl trivial) ?_
              refine gos ?_
              intro v4
              refine gos ?_
              refine ⟨n, _, 3, by omega, fgts, b + 1, N', [N'.hash + N'.mi], v4, by omega, by omega, by omega, by simp, by simp, by simp, hq, rfl, rfl⟩
            | false =>
              rw [if_neg (by simp [h3])] at hq
              refine CallW.meth 0 (take_no h3 hb _) rfl rfl rfl rfl rfl rfl ?_
              refine gos ?_
              refine CallW.of3 0 1 2 (groups_does s b ver pv cv (N'.hash + N'.mi) x hx two N' _ (by omega) hcl hc1 hc2) (by decide) (by decide) (by decide) rfl rfl rfl rfl (patO_closed hx) (intO_closed _ _) rfl rfl ?_
              intro ae O hgr
              have hwf := whoF_of hq
              split at hgr
              · rename_i hgf
                rw [hgf] at hwf
                subst hgr
                refine ⟨rfl, fun s' hl => ?_⟩
                refine gos ?_
                refine ⟨by rw [hl]; simp, ?_⟩
                rw [hwf]
                exact ⟨b, rfl, by rw [hq]⟩
              · rename_i q hgf
                rw [hgf] at hwf
                obtain ⟨rfl, rfl⟩ := hgr
                refine ⟨_, _, _, rfl, rfl, patO_closed hx, intO_closed _ _, rfl, ?_⟩
                refine gos ?_
                refine RetW.plain (by simp) ?_
                rw [hwf]
                exact ⟨rfl, rfl⟩
          · rw [if_neg (by simp [mayC]; omega)] at hq
            refine CmpW.f (by simp; omega) ?_
            refine gos ?_
            refine CallW.of3 0 1 2 (groups_does s b ver pv cv (N'.hash + N'.mi) x hx two N' _ (by omega) hcl hc1 hc2) (by decide) (by decide) (by decide) rfl rfl rfl rfl (patO_closed hx) (intO_closed _ _) rfl rfl ?_
            intro ae O hgr
            have hwf := whoF_of hq
            split at hgr
            · rename_i hgf
              rw [hgf] at hwf
              subst hgr
              refine ⟨rfl, fun s' hl => ?_⟩
              refine gos ?_
              refine ⟨by rw [hl]; simp, ?_⟩
              rw [hwf]
              exact ⟨b, rfl, by rw [hq]⟩
            · rename_i q hgf
              rw [hgf] at hwf
              obtain ⟨rfl, rfl⟩ := hgr
              refine ⟨_, _, _, rfl, rfl, patO_closed hx, intO_closed _ _, rfl, ?_⟩
              refine gos ?_
              refine RetW.plain (by simp) ?_
              rw [hwf]
              exact ⟨rfl, rfl⟩
        · have hcc := hc1 c (by simp)
          by_cases hp0 : 0 < N'.hash + N'.mi
          · refine CmpW.t (by simp; omega) ?_
            refine gos ?_
            refine And.intro (by simp) ?_
            refine gos ?_
            by_cases hp1 : c < N'.hash + N'.mi
            · refine CmpW.t (by simp; omega) ?_
              refine gos ?_
              cases h3 : pre s b [44] with
              | true =>
                rw [if_pos ⟨by simpa [mayC] using hp1, h3⟩] at hq
                have hle := pre_le h3 (by simp)
                simp only [List.length_cons, List.length_nil] at hle
                refine CallW.meth 0 (take_yes 1 rfl h3 hle (by omega) _) rfl rfl rfl rfl rfl rfl ?_
                refine gos ?_
                intro v3
                refine gos ?_
                refine And.intro (And.intro (fun y hy => by rcases List.mem_singleton.1 hy with rfl; rfl) (fun y hy => by rcases List.mem_singleton.1 hy with rfl; rfl)) ?_; refine And.intro (And.intro rfl trivial) ?_
                refine gos ?_
                intro v4
                refine gos ?_
                refine ⟨n, _, 3, by omega, fgts, b + 1, N', [c, N'.hash + N'.mi], v4, by omega, by omega, by omega, by simp, by simp; omega, ?_, hq, rfl, rfl⟩
                intro c' d' e; simp at e; omega
              | false =>
                rw [if_neg (by simp [h3])] at hq
                refine CallW.meth 0 (take_no h3 hb _) rfl rfl rfl rfl rfl rfl ?_
                refine gos ?_
                refine CallW.of3 0 1 2 (groups_does s b ver pv cv (N'.hash + N'.mi) x hx two N' _ (by omega) hcl hc1 hc2) (by decide) (by decide) (by decide) rfl rfl rfl rfl (patO_closed hx) (intO_closed _ _) rfl rfl ?_
                intro ae O hgr
                have hwf := whoF_of hq
                split at hgr
                · rename_i hgf
                  rw [hgf] at hwf
                  subst hgr
                  refine ⟨rfl, fun s' hl => ?_⟩
                  refine gos ?_
                  refine ⟨by rw [hl]; simp, ?_⟩
                  rw [hwf]
                  exact ⟨b, rfl, by rw [hq]⟩
                · rename_i q hgf
                  rw [hgf] at hwf
                  obtain ⟨rfl, rfl⟩ := hgr
                  refine ⟨_, _, _, rfl, rfl, patO_closed hx, intO_closed _ _, rfl, ?_⟩
                  refine gos ?_
                  refine RetW.plain (by simp) ?_
                  rw [hwf]
                  exact ⟨rfl, rfl⟩
            · rw [if_neg (by simp [mayC]; omega)] at hq
              refine CmpW.f (by simp; omega) ?_
              refine gos ?_
              refine CallW.of3 0 1 2 (groups_does s b ver pv cv (N'.hash + N'.mi) x hx two N' _ (by omega) hcl hc1 hc2) (by decide) (by decide) (by decide) rfl rfl rfl rfl (patO_closed hx) (intO_closed _ _) rfl rfl ?_
              intro ae O hgr
              have hwf := whoF_of hq
              split at hgr
              · rename_i hgf
                rw [hgf] at hwf
                subst hgr
                refine ⟨rfl, fun s' hl => ?_⟩
                refine gos ?_
                refine ⟨by rw [hl]; simp, ?_⟩
                rw [hwf]
                exact ⟨b, rfl, by rw [hq]⟩
              · rename_i q hgf
                rw [hgf] at hwf
                obtain ⟨rfl, rfl⟩ := hgr
                refine ⟨_, _, _, rfl, rfl, patO_closed hx, intO_closed _ _, rfl, ?_⟩
                refine gos ?_
                refine RetW.plain (by simp) ?_
                rw [hwf]
                exact ⟨rfl, rfl⟩
          · rw [if_neg (by simp [mayC]; omega)] at hq
            refine CmpW.f (by simp; omega) ?_
            refine gos ?_
            refine CallW.of3 0 1 2 (groups_does s b ver pv cv (N'.hash + N'.mi) x hx two N' _ (by omega) hcl hc1 hc2) (by decide) (by decide) (by decide) rfl rfl rfl rfl (patO_closed hx) (intO_closed _ _) rfl rfl ?_
            intro ae O hgr
            have hwf := whoF_of hq
            split at hgr
            · rename_i hgf
              rw [hgf] at hwf
              subst hgr
              refine ⟨rfl, fun s' hl => ?_⟩
              refine gos ?_
              refine ⟨by rw [hl]; simp, ?_⟩
              rw [hwf]
              exact ⟨b, rfl, by rw [hq]⟩
            · rename_i q hgf
              rw [hgf] at hwf
              obtain ⟨rfl, rfl⟩ := hgr
              refine ⟨_, _, _, rfl, rfl, patO_closed hx, intO_closed _ _, rfl, ?_⟩
              refine gos ?_
              refine RetW.plain (by simp) ?_
              rw [hwf]
              exact ⟨rfl, rfl⟩
        · rw [if_neg (by simp [mayC])] at hq
          by_cases hp0 : 0 < N'.hash + N'.mi
          · refine CmpW.t (by simp; omega) ?_
            refine gos ?_
            refine CallW.of3 0 1 2 (groups_does s b ver pv cv (N'.hash + N'.mi) x hx two N' _ (by omega) hcl hc1 hc2) (by decide) (by decide) (by decide) rfl rfl rfl rfl (patO_closed hx) (intO_closed _ _) rfl rfl ?_
            intro ae O hgr
            have hwf := whoF_of hq
            split at hgr
            · rename_i hgf
              rw [hgf] at hwf
              subst hgr
              refine ⟨rfl, fun s' hl => ?_⟩
              refine gos ?_
              refine ⟨by rw [hl]; simp, ?_⟩
              rw [hwf]
              exact ⟨b, rfl, by rw [hq]⟩
            · rename_i q hgf
              rw [hgf] at hwf
              obtain ⟨rfl, rfl⟩ := hgr
              refine ⟨_, _, _, rfl, rfl, patO_closed hx, intO_closed _ _, rfl, ?_⟩
              refine gos ?_
              refine RetW.plain (by simp) ?_
              rw [hwf]
              exact ⟨rfl, rfl⟩
          · refine CmpW.f (by simp; omega) ?_
            refine gos ?_
            refine CallW.of3 0 1 2 (groups_does s b ver pv cv (N'.hash + N'.mi) x hx two N' _ (by omega) hcl hc1 hc2) (by decide) (by decide) (by decide) rfl rfl rfl rfl (patO_closed hx) (intO_closed _ _) rfl rfl ?_
            intro ae O hgr
            have hwf := whoF_of hq
            split at hgr
            · rename_i hgf
              rw [hgf] at hwf
              subst hgr
              refine ⟨rfl, fun s' hl => ?_⟩
              refine gos ?_
              refine ⟨by rw [hl]; simp, ?_⟩
              rw [hwf]
              exact ⟨b, rfl, by rw [hq]⟩
            · rename_i q hgf
              rw [hgf] at hwf
              obtain ⟨rfl, rfl⟩ := hgr
              refine ⟨_, _, _, rfl, rfl, patO_closed hx, intO_closed _ _, rfl, ?_⟩
              refine gos ?_
              refine RetW.plain (by simp) ?_
              rw [hwf]
              exact ⟨rfl, rfl⟩
end Go.Proofs.YtpipbjfcbbdicaaGreatDoor

namespace Go.Proofs.YtpipbjfcbbdicaaGreatDoor
open Go Go.Abs
attribute [local irreducible] DrawW CallW RetW AC Does CmpW
set_option maxRecDepth 100000
variable {G : Globs}

theorem whoL_keeps (s : List UInt8) : ∀ f a N cs, a ≤ s.length → (whoL s f a N cs).2.1.mnf = N.mnf ∧ (whoL s f a N cs).2.1.mxf = N.mxf ∧ a ≤ (whoL s f a N cs).1 ∧ (whoL s f a N cs).1 ≤ s.length
  | 0, a, N, cs, h => by simp [whoL, h]
  | f + 1, a, N, cs, h => by
    unfold whoL
    split
    · rename_i hp
      have hle := pre_le hp.2 (by simp)
      simp only [List.length_cons, List.length_nil] at hle
      have := whoL_keeps s f (a + 1) { N with hash := N.hash + 1 } cs (by omega)
      simp only at this ⊢; omega
    split
    · rename_i hp
      have hle := pre_le hp (by simp)
      simp only [List.length_cons, List.length_nil] at hle
      have := whoL_keeps s f (a + 1) { N with mi := N.mi + 1 } cs (by omega)
      simp only at this ⊢; omega
    split
    · rename_i hp
      have hle := pre_le hp.2 (by simp)
      simp only [List.length_cons, List.length_nil] at hle
      have := whoL_keeps s f (a + 1) N (cs ++ [N.hash + N.mi]) (by omega)
      omega
    · simp [h]
theorem grpF_keeps {p : Nat} {cs : List Nat} {N N' : Num} (h : grpF p cs N = some N') : N'.mnf = N.mnf ∧ N'.mxf = N.mxf := by
  unfold grpF at h
  split at h
  · cases h
  split at h
  · simp at h; subst h; exact ⟨rfl, rfl⟩
  · split at h
    · cases h
    · simp at h; subst h; exact ⟨rfl, rfl⟩
  · split at h
    · cases h
    split at h
    · simp at h; subst h; exact ⟨rfl, rfl⟩
    · simp at h; subst h; exact ⟨rfl, rfl⟩
  · cases h
theorem whoF_keeps {s : List UInt8} {a b : Nat} {N N' : Num} (ha : a ≤ s.length) (h : whoF s a N = some (N', b)) : N'.mnf = N.mnf ∧ N'.mxf = N.mxf ∧ a ≤ b ∧ b ≤ s.length := by
  unfold whoF at h
  simp only [Option.map_eq_some_iff, Prod.mk.injEq] at h
  obtain ⟨q, h1, rfl, rfl⟩ := h
  have k := whoL_keeps s (s.length + 1 - a) a N [] ha
  have k2 := grpF_keeps h1
  exact ⟨k2.1.trans k.1, k2.2.trans k.2.1, k.2.2.1, k.2.2.2⟩

/-- How many of a byte are next. -/
def cntN (s : List UInt8) (c : UInt8) : Nat → Nat → Nat
  | 0, _ => 0
  | f + 1, a => if pre s a [c] then cntN s c f (a + 1) + 1 else 0
theorem cntN_le (s : List UInt8) (c : UInt8) : ∀ f a, a ≤ s.length → a + cntN s c f a ≤ s.length
  | 0, a, h => by simp [cntN]; exact h
  | f + 1, a, h => by
    unfold cntN
    split
    · rename_i hp
      have h1 := pre_le hp (by simp)
      simp only [List.length_cons, List.length_nil] at h1
      have := cntN_le s c f (a + 1) (by omega)
      omega
    · simpa using h
/-- The places of a number, and where they end; or where it gives up. -/
def numF (s : List UInt8) (a : Nat) : Except Nat (Num × Nat) :=
  match whoF s a Num.zero with
  | none => .error (whoL s (s.length + 1 - a) a Num.zero []).1
  | some (N, b) =>
    if pre s b [46] then
      if cntN s 48 s.length (b + 1) + cntN s 35 s.length (b + 1 + cntN s 48 s.length (b + 1)) = 0 then .error (b + 1 + cntN s 48 s.length (b + 1) + cntN s 35 s.length (b + 1 + cntN s 48 s.length (b + 1)))
      else .ok ({ N with mnf := cntN s 48 s.length (b + 1), mxf := cntN s 48 s.length (b + 1) + cntN s 35 s.length (b + 1 + cntN s 48 s.length (b + 1)) }, b + 1 + cntN s 48 s.length (b + 1) + cntN s 35 s.length (b + 1 + cntN s 48 s.length (b + 1)))
    else .ok (N, b)

theorem number_does (s : List UInt8) (a ver pv : Nat) (x : Aff) (hx : x.ok) (two : Bool) (ha : a ≤ s.length) (hs : s.length < 100000) :
    Does Tryz.prog G 115 [.ptr 0 ver 0 0, .ptr 1 pv 0 0] [some (rdr ver s a), some (patO pv x two Num.zero)] fun ae O => match numF s a with
      | .error b => ae = .panic (faultV b)
      | .ok r => ae = .ret (.tuple []) ∧ O = [some (rdr ver s r.2), some (patO pv x two r.1)] := by
  refine Does.body tab Tryz.func115 rfl rfl ?_
  refine gos ?_
  refine CallW.of2 0 1 (whole_does s a ver pv x hx two Num.zero ha hs ⟨rfl, rfl⟩) (by decide) rfl rfl rfl (patO_closed hx) rfl rfl ?_
  intro ae O hw
  unfold numF
  cases hwf : whoF s a Num.zero with
  | none =>
    rw [hwf] at hw
    obtain ⟨b, rfl, rfl⟩ := hw
    refine ⟨rfl, fun s' hl => ?_⟩
    refine gos ?_
    exact ⟨by rw [hl]; simp, rfl⟩
  | some r =>
    obtain ⟨N, b⟩ := r
    rw [hwf] at hw
    obtain ⟨rfl, rfl⟩ := hw
    obtain ⟨n1, n2, n3, n4⟩ := whoF_keeps ha hwf
    refine ⟨_, _, rfl, rfl, patO_closed hx, rfl, ?_⟩
    refine gos ?_
    cases hd : pre s b [46] with
    | false =>
      refine CallW.meth 0 (take_no hd n4 _) rfl rfl rfl rfl rfl rfl ?_
      refine gos ?_
      refine RetW.plain (by simp) ?_
      simp only [hd, if_neg (show ¬ (false = true) by simp)]
      exact ⟨trivial, rfl⟩
    | true =>
      have hle := pre_le hd (by simp)
      simp only [List.length_cons, List.length_nil] at hle
      simp only [hd, if_true]
      refine CallW.meth 0 (take_yes 1 rfl hd hle (by omega) _) rfl rfl rfl rfl rfl rfl ?_
      refine gos ?_
      refine AC.loopC tab (fun n e h => ∃ k, s.length < n + (b + 1 + k) ∧ b + 1 + k ≤ s.length ∧ cntN s 48 s.length (b + 1) = k + cntN s 48 n (b + 1 + k) ∧
        e = [.ptr 0 ver 0 0, .ptr 1 pv 0 0] ++ List.replicate 40 .any ∧ h = [some (rdr ver s (b + 1 + k)), some (patO pv x two { N with mnf := k })]) s.length ⟨_, fgts, 0, by omega, by omega, by simp, rfl, ?_⟩ ?_
      · obtain ⟨q1, q2, q3, q4, q5, q6⟩ := N
        obtain rfl : q3 = 0 := n1
        rfl
      rintro n e h ⟨k, hn, hk, hc, rfl, rfl⟩
      obtain ⟨n, rfl⟩ : ∃ m, n = m + 1 := ⟨n - 1, by omega⟩
      simp only [cntN] at hc
      refine gos ?_
      cases hz : pre s (b + 1 + k) [48] with
      | true =>
        have hle2 := pre_le hz (by simp)
        simp only [List.length_cons, List.length_nil] at hle2
        rw [if_pos hz] at hc
        refine CallW.meth 0 (take_yes 1 rfl hz hle2 (by omega) _) rfl rfl rfl rfl rfl rfl ?_
        refine gos ?_
        refine ⟨n, _, 2, by omega, fgts, k + 1, by omega, by omega, ?_, rfl, rfl⟩
        rw [hc, show b + 1 + (k + 1) = b + 1 + k + 1 by omega]; omega
      | false =>
        rw [if_neg (by simp [hz])] at hc
        have hkz : cntN s 48 s.length (b + 1) = k := by omega
        rw [hkz]
        refine CallW.meth 0 (take_no hz hk _) rfl rfl rfl rfl rfl rfl ?_
        refine gos ?_
        refine AC.loopC tab (fun n e h => ∃ j, s.length < n + (b + 1 + k + j) ∧ b + 1 + k + j ≤ s.length ∧ cntN s 35 s.length (b + 1 + k) = j + cntN s 35 n (b + 1 + k + j) ∧
          e = [.ptr 0 ver 0 0, .ptr 1 pv 0 0] ++ List.replicate 40 .any ∧ h = [some (rdr ver s (b + 1 + k + j)), some (patO pv x two { N with mnf := k, mxf := k + j })]) s.length ⟨_, fgts, 0, by omega, by omega, by simp, rfl, rfl⟩ ?_
        rintro n' e h ⟨j, hn', hj, hc', rfl, rfl⟩
        obtain ⟨n', rfl⟩ : ∃ m, n' = m + 1 := ⟨n' - 1, by omega⟩
        simp only [cntN] at hc'
        refine gos ?_
        cases hy : pre s (b + 1 + k + j) [35] with
        | true =>
          have hle3 := pre_le hy (by simp)
          simp only [List.length_cons, List.length_nil] at hle3
          rw [if_pos hy] at hc'
          refine CallW.meth 0 (take_yes 1 rfl hy hle3 (by omega) _) rfl rfl rfl rfl rfl rfl ?_
          refine gos ?_
          refine ⟨n', _, 2, by omega, fgts, j + 1, by omega, by omega, ?_, rfl, rfl⟩
          rw [hc', show b + 1 + k + (j + 1) = b + 1 + k + j + 1 by omega]; omega
        | false =>
          rw [if_neg (by simp [hy])] at hc'
          have hjz : cntN s 35 s.length (b + 1 + k) = j := by omega
          rw [hjz]
          refine CallW.meth 0 (take_no hy hj _) rfl rfl rfl rfl rfl rfl ?_
          refine gos ?_
          by_cases h0 : k + j = 0
          · refine CmpW.t (by simp; omega) ?_
            refine gos ?_
            refine CallW.of1 0 (fail_does s _ ver) rfl rfl rfl rfl ?_
            rintro ae O ⟨rfl, rfl⟩
            refine ⟨_, rfl, rfl, rfl, ?_⟩
            refine gos ?_
            refine ⟨by simp, ?_⟩
            simp only [if_pos h0]
          · refine CmpW.f (by simp; omega) ?_
            refine gos ?_
            refine RetW.plain (by simp) ?_
            simp only [if_neg h0]
            exact ⟨trivial, rfl⟩
end Go.Proofs.YtpipbjfcbbdicaaGreatDoor
