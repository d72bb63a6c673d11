/- The reader of rules: relations. -/
import Derived.Test.YtjjppmbojcgdgaaGreatDoorJ09
import Derived.Lib.AtoiErrMem
set_option linter.unusedVariables false
set_option linter.unusedSimpArgs false
set_option maxRecDepth 100000
set_option maxHeartbeats 4000000

namespace Go.Proofs.YtjjppmbojcgdgaaGreatDoor
open Go Go.Abs
attribute [local irreducible] DrawW CallW RetW AC Does CmpW
variable {G : Globs}
theorem decFrom_digits : ∀ (l : List UInt8) (acc : Nat), (∀ c ∈ l, (48 ≤ c && c ≤ 57) = true) → ∃ n, Lib.decFrom acc l = some n
  | [], acc, _ => ⟨acc, rfl⟩
  | c :: l, acc, h => by
    have hc := h c (by simp)
    simp only [Bool.and_eq_true, decide_eq_true_eq] at hc
    have h1 : 48 ≤ c.toNat := hc.1
    have h2 : c.toNat ≤ 57 := hc.2
    unfold Lib.decFrom Lib.digitVal
    rw [if_pos ⟨h1, h2⟩]
    exact decFrom_digits l _ fun d hd => h d (by simp [hd])
theorem atoi_digits (l : List UInt8) (hl : l ≠ []) (h : ∀ c ∈ l, (48 ≤ c && c ≤ 57) = true) : ∃ n : Nat, Lib.atoi l = some (n : Int) := by
  cases l with
  | nil => exact absurd rfl hl
  | cons c l =>
    have hc := h c (by simp)
    simp only [Bool.and_eq_true, decide_eq_true_eq] at hc
    have h1 : 48 ≤ c.toNat := hc.1
    have e1 : (c == 45) = false := by rw [beq_eq_false_iff_ne]; intro e; subst e; simp at h1
    have e2 : (c == 43) = false := by rw [beq_eq_false_iff_ne]; intro e; subst e; simp at h1
    obtain ⟨n, hn⟩ := decFrom_digits (c :: l) 0 h
    refine ⟨n, ?_⟩
    simp only [Lib.atoi, e1, e2, Bool.false_eq_true, if_false, Lib.decNat, List.isEmpty_cons, hn, Option.map_some]
theorem Atoi_does (s : List UInt8) (n : Int) (hl : s.length ≤ 18) (h : Lib.atoi s = some n) : Does Tryz.prog G 312 [.str s] [] fun ae _ => ae = .ret (.tuple [.int .i64 n, .nili]) :=
  Does.of_calls (v := .tuple #[.int .i64 n, .nilIface]) Tryz.func312 rfl rfl (fun C => by simp [RepF, RepFL]) fun C cargs hg hr => by
    rw [rep_str1 hr]
    refine (Tryz.strconv_Atoi ⟨⟨s⟩⟩ n hl h C.w).mono ?_
    rintro e w' ⟨rfl, t, rfl⟩
    exact ⟨rfl, Lib.bytesWorld_below _ _ _⟩
def dgs (s : List UInt8) (b : Nat) : List UInt8 := (s.drop b).takeWhile fun c => 48 ≤ c && c ≤ 57
def valF (s : List UInt8) (a : Nat) : Except (Int × Nat) (Nat × Nat × Nat) :=
  if (dgs s (bl s a)).length = 0 ∨ (1 < (dgs s (bl s a)).length ∧ s[bl s a]? = some 48) then .error (1, bl s a)
  else if 9 < (dgs s (bl s a)).length then .error (2, bl s a)
  else .ok (((Lib.atoi (dgs s (bl s a))).getD 0).toNat, bl s a, bl s a + (dgs s (bl s a)).length)
theorem valF_le {s : List UInt8} {a : Nat} (ha : a ≤ s.length) {v at_ b : Nat} (h : valF s a = .ok (v, at_, b)) : a < b ∧ b ≤ s.length := by
  unfold valF at h
  split at h; · cases h
  split at h; · cases h
  rename_i h1 h2
  simp only [Except.ok.injEq, Prod.mk.injEq] at h
  obtain ⟨_, _, rfl⟩ := h
  have hb := bl_le ha
  have ht : bl s a + (dgs s (bl s a)).length ≤ s.length := tw_le _ hb.2
  omega
theorem value_does (s : List UInt8) (a n : Nat) (F : Fnd) (ha : a ≤ s.length) (hs : s.length < 100000) (ver : Nat) :
    Does Tryz.prog G 297 [.ptr 0 ver 0 0] [some (rro ver s a n F)] fun ae O => match valF s a with
      | .error r => ae = .panic (rfault r)
      | .ok (v, at_, b) => ae = .ret (.tuple [.int .i64 v, .int .i64 at_]) ∧ O = [some (rro ver s b n F)] := by
  refine Does.body tab Tryz.func297 rfl rfl ?_
  refine gos ?_
  refine CallW.meth 0 (blanks_does s a n F ha hs ver) rfl rfl rfl rfl rfl rfl ?_
  refine gos ?_
  have hb := bl_le ha
  obtain ⟨D, hD⟩ : ∃ D, D = dgs s (bl s a) := ⟨_, rfl⟩
  have hr : Does Tryz.prog G 272 [.ptr 0 ver 0 0, .int .u8 (48 : UInt8).toNat, .int .u8 (57 : UInt8).toNat] [some (rro ver s (bl s a) n F)] fun ae O => ae = .ret (.int .i64 D.length) ∧ O = [some (rro ver s (bl s a) n F)] := by
    rw [hD]; exact run_does (G := G) s 48 57 (bl s a) n F hb.2 hs ver
  have ht : bl s a + D.length ≤ s.length := by rw [hD]; exact tw_le _ hb.2
  have htx : (s.take (bl s a + D.length)).drop (bl s a) = D := by rw [hD]; exact tw_text s (fun c => (48 : UInt8) ≤ c && c ≤ 57) (bl s a)
  have hall : ∀ c ∈ D, (48 ≤ c && c ≤ 57) = true := fun c hc => by
    have := List.all_takeWhile (p := fun c => (48 : UInt8) ≤ c && c ≤ 57) (l := s.drop (bl s a))
    rw [hD] at hc
    exact List.all_eq_true.1 this c hc
  have hpre : D[0]? = if D.length = 0 then none else s[bl s a]? := by
    split
    · rename_i h0; rw [List.eq_nil_of_length_eq_zero h0]; rfl
    · rename_i h0
      have := List.prefix_iff_eq_take.1 (List.takeWhile_prefix (fun c => (48 : UInt8) ≤ c && c ≤ 57) (l := s.drop (bl s a)))
      have e : D = (s.drop (bl s a)).take D.length := by rw [hD]; exact this
      rw [e, List.getElem?_take, if_pos (by omega), List.getElem?_drop, Nat.add_zero]
  have hgo : ((s.take ((bl s a : Int) + (D.length : Int)).toNat).drop (bl s a : Int).toNat) = D := by
    rw [show ((bl s a : Int) + (D.length : Int)).toNat = bl s a + D.length by omega, Int.toNat_natCast, htx]
  have hF : valF s a = if D.length = 0 ∨ (1 < D.length ∧ s[bl s a]? = some 48) then .error (1, bl s a)
      else if 9 < D.length then .error (2, bl s a) else .ok (((Lib.atoi D).getD 0).toNat, bl s a, bl s a + D.length) := by rw [hD]; rfl
  rw [hF]
  clear hF hD
  refine DrawW.P (.take 0 (.take 1 (.take 2 (.take 4 (.fork (.cons 3 (.take 5 (.take 6 (.take 7 .done))) (.cons 5 (.take 3 (.take 6 (.take 7 .done))) .nil))))))) ?_
  (repeat' (first | exact trivial | refine gon ?_ | refine CallW.meth 0 hr rfl rfl rfl rfl rfl rfl ?_ | refine And.intro (And.intro (by omega) (And.intro (by omega) (by omega))) ?_ | refine And.intro ?_ ?_))
  all_goals
    refine gos ?_
    rw [hgo]
    by_cases h0 : D.length = 0
    · refine CmpW.T ?_
      refine gos ?_
      refine CallW.of0 (rfail_does _ _) rfl ?_
      rintro ae ⟨rfl, _⟩
      refine ⟨rfl, ?_⟩
      refine gos ?_
      refine ⟨by simp, ?_⟩
      rw [if_pos (.inl h0)]
    · refine CmpW.N ?_
      refine gos ?_
      rw [if_neg h0] at hpre
      obtain ⟨c, hc⟩ : ∃ c, D[0]? = some c := ⟨_, List.getElem?_eq_getElem (by omega)⟩
      by_cases h1 : 1 < D.length
      · refine CmpW.T ?_
        refine gos ?_
        refine And.intro (by simp) ⟨c, hc, ?_⟩
        refine gos ?_
        by_cases h48 : c = 48
        · subst h48
          refine CmpW.t (by simp) ?_
          refine gos ?_
          refine CallW.of0 (rfail_does _ _) rfl ?_
          rintro ae ⟨rfl, _⟩
          refine ⟨rfl, ?_⟩
          refine gos ?_
          refine ⟨by simp, ?_⟩
          rw [if_pos (.inr ⟨h1, by rw [← hpre]; exact hc⟩)]
        · refine CmpW.f (by simp; exact fun h => h48 (u8_of h rfl)) ?_
          refine gos ?_
          have hnn : ¬ (D.length = 0 ∨ (1 < D.length ∧ s[bl s a]? = some 48)) := by
            rintro (h | ⟨_, h⟩)
            · exact h0 h
            · rw [← hpre, hc] at h; exact h48 (Option.some.inj h)
          rw [if_neg hnn]
          by_cases h9 : 9 < D.length
          · refine CmpW.T ?_
            refine gos ?_
            refine CallW.of0 (rfail_does _ _) rfl ?_
            rintro ae ⟨rfl, _⟩
            refine ⟨rfl, ?_⟩
            refine gos ?_
            refine ⟨by simp, ?_⟩
            rw [if_pos h9]
          · refine CmpW.N ?_
            refine gos ?_
            obtain ⟨v, hv⟩ := atoi_digits D (fun e => h0 (by simp [e])) hall
            refine CallW.pure (Atoi_does D v (by omega) hv) rfl rfl ?_
            refine gos ?_
            refine RetW.plain (by simp) ?_
            rw [if_neg h9, hv]
            exact ⟨rfl, rfl⟩
      · refine CmpW.N ?_
        refine gos ?_
        have hnn : ¬ (D.length = 0 ∨ (1 < D.length ∧ s[bl s a]? = some 48)) := by
          rintro (h | ⟨h, _⟩)
          · exact h0 h
          · exact h1 h
        rw [if_neg hnn]
        by_cases h9 : 9 < D.length
        · omega
        · refine CmpW.N ?_
          refine gos ?_
          obtain ⟨v, hv⟩ := atoi_digits D (fun e => h0 (by simp [e])) hall
          refine CallW.pure (Atoi_does D v (by omega) hv) rfl rfl ?_
          refine gos ?_
          refine RetW.plain (by simp) ?_
          rw [if_neg h9, hv]
          exact ⟨rfl, rfl⟩
def spaF (s : List UInt8) (a : Nat) : Except (Int × Nat) ((Nat × Nat) × Nat) :=
  match valF s a with
  | .error r => .error r
  | .ok (lo, _, b) =>
    if pre s (bl s b) [46, 46] then match valF s (bl s b + 2) with
      | .error r => .error r
      | .ok (hi, at_, c) => if hi < lo then .error (3, at_) else .ok ((lo, hi), c)
    else .ok ((lo, lo), bl s b)
theorem spaF_le {s : List UInt8} {a : Nat} (ha : a ≤ s.length) {r : Nat × Nat} {b : Nat} (h : spaF s a = .ok (r, b)) : a < b ∧ b ≤ s.length := by
  unfold spaF at h
  split at h; · cases h
  rename_i lo at_ c hv
  have h1 := valF_le ha hv
  have h2 := bl_le h1.2
  split at h
  · rename_i hp
    have hle := pre_le hp (by simp)
    simp only [List.length_cons, List.length_nil] at hle
    split at h; · cases h
    rename_i hi at2 d hv2
    have h3 := valF_le (a := bl s c + 2) (by omega) hv2
    split at h; · cases h
    simp only [Except.ok.injEq, Prod.mk.injEq] at h
    omega
  · simp only [Except.ok.injEq, Prod.mk.injEq] at h
    omega
theorem span_does (s : List UInt8) (a n : Nat) (F : Fnd) (ha : a ≤ s.length) (hs : s.length < 100000) (ver : Nat) :
    Does Tryz.prog G 298 [.ptr 0 ver 0 0] [some (rro ver s a n F)] fun ae O => match spaF s a with
      | .error r => ae = .panic (rfault r)
      | .ok (r, b) => ae = .ret (.agg [.int .i64 r.1, .int .i64 r.2]) ∧ O = [some (rro ver s b n F)] := by
  refine Does.body tab Tryz.func298 rfl rfl ?_
  refine gos ?_
  intro v1
  refine gos ?_
  refine CallW.of1p 0 (value_does s a n F ha hs ver) rfl rfl rfl rfl ?_
  intro ae O hw
  cases hv : valF s a with
  | error r =>
    rw [hv] at hw
    subst hw
    refine ⟨rfl, fun s' hl => ?_⟩
    refine gos ?_
    exact ⟨by rw [hl]; simp, by simp only [spaF, hv]⟩
  | ok q =>
    obtain ⟨lo, at_, b⟩ := q
    rw [hv] at hw
    obtain ⟨rfl, rfl⟩ := hw
    refine ⟨_, rfl, rfl, rfl, ?_⟩
    have h1 := valF_le ha hv
    have h2 := bl_le h1.2
    refine gos ?_
    refine CallW.meth 0 (take_does s [46, 46] b n F h1.2 hs ver) rfl rfl rfl rfl rfl rfl ?_
    cases hp : pre s (bl s b) [46, 46] with
    | false =>
      simp only [Bool.false_eq_true, if_false]
      refine gos ?_
      refine RetW.plain (by simp) ?_
      simp only [spaF, hv, hp, Bool.false_eq_true, if_false]
      (first | exact ⟨rfl, rfl⟩ | exact ⟨trivial, rfl⟩ | exact ⟨rfl, trivial⟩ | rfl | trivial | done)
    | true =>
      have hle := pre_le hp (by simp)
      simp only [List.length_cons, List.length_nil] at hle
      simp only [if_true]
      refine gos ?_
      refine CallW.of1p 0 (value_does s (bl s b + 2) n F (by omega) hs ver) rfl rfl rfl rfl ?_
      intro ae O hw
      cases hv2 : valF s (bl s b + 2) with
      | error r =>
        rw [hv2] at hw
        subst hw
        refine ⟨rfl, fun s' hl => ?_⟩
        refine gos ?_
        exact ⟨by rw [hl]; simp, by simp only [spaF, hv, hp, hv2, if_true]⟩
      | ok q =>
        obtain ⟨hi, at2, c⟩ := q
        rw [hv2] at hw
        obtain ⟨rfl, rfl⟩ := hw
        refine ⟨_, rfl, rfl, rfl, ?_⟩
        refine gos ?_
        by_cases h3 : hi < lo
        · refine CmpW.T ?_
          refine gos ?_
          refine CallW.of0 (rfail_does _ _) rfl ?_
          rintro ae ⟨rfl, _⟩
          refine ⟨rfl, ?_⟩
          refine gos ?_
          exact ⟨by simp, by simp only [spaF, hv, hp, hv2, if_true, if_pos h3]⟩
        · refine CmpW.N ?_
          refine gos ?_
          refine RetW.plain (by simp) ?_
          simp only [spaF, hv, hp, hv2, if_true, if_neg h3]
          (first | exact ⟨rfl, rfl⟩ | exact ⟨trivial, rfl⟩ | exact ⟨rfl, trivial⟩ | rfl | trivial | done)
theorem take_t {s t : List UInt8} {a : Nat} (c : Nat) (hp : pre s (bl s a) t = true) (hc : bl s a + t.length = c) (n : Nat) (F : Fnd) (ha : a ≤ s.length) (hs : s.length < 100000) (ver : Nat) :
    Does Tryz.prog G 190 [.ptr 0 ver 0 0, .str t] [some (rro ver s a n F)] fun ae O => ae = .ret (.bool true) ∧ O = [some (rro ver s c n F)] := by
  have h := take_does (G := G) s t a n F ha hs ver
  rw [hp] at h
  simp only [if_true, hc] at h
  exact h
theorem take_f {s t : List UInt8} {a : Nat} (hp : pre s (bl s a) t = false) (n : Nat) (F : Fnd) (ha : a ≤ s.length) (hs : s.length < 100000) (ver : Nat) :
    Does Tryz.prog G 190 [.ptr 0 ver 0 0, .str t] [some (rro ver s a n F)] fun ae O => ae = .ret (.bool false) ∧ O = [some (rro ver s (bl s a) n F)] := by
  have h := take_does (G := G) s t a n F ha hs ver
  rw [hp] at h
  simpa only [Bool.false_eq_true, if_false] using h
theorem next_does (s t : List UInt8) (a n : Nat) (F : Fnd) (ha : a ≤ s.length) (hs : s.length < 100000) (ver : Nat) :
    Does Tryz.prog G 242 [.ptr 0 ver 0 0, .str t] [some (rro ver s a n F)] fun ae O => ae = .ret (.bool (decide (wd s a = t))) ∧ O = [some (rro ver s (if wd s a = t then bl s a + t.length else bl s a) n F)] := by
  refine Does.body tab Tryz.func242 rfl rfl ?_
  refine gos ?_
  refine CallW.meth 0 (word_does s a n F ha hs ver) rfl rfl rfl rfl rfl rfl ?_
  have hb := bl_le ha
  have hl : bl s a + (wd s a).length ≤ s.length := tw_le _ hb.2
  refine gos ?_
  by_cases h : wd s a = t
  · refine CmpW.f (by simpa using h) ?_
    have ht : bl s a + t.length ≤ s.length := by rw [← h]; exact hl
    refine gos ?_
    refine RetW.plain (by simp) ?_
    simp only [h, decide_true, if_true]
    exact ⟨trivial, rfl⟩
  · refine CmpW.t (by simpa using h) ?_
    refine gos ?_
    refine RetW.plain (by simp) ?_
    simp only [h, decide_false, if_false]
    exact ⟨trivial, rfl⟩
end Go.Proofs.YtjjppmbojcgdgaaGreatDoor

namespace Go.Proofs.YtjjppmbojcgdgaaGreatDoor
open Go Go.Abs
attribute [local irreducible] DrawW CallW RetW AC Does CmpW
theorem Contains_r (m : Int) (s t : List UInt8) (hs : s.length < 1000000) : Does Tryz.prog (GL m) 296 [.str s, .str t] [] fun ae _ => ae = .ret (.bool (Lib.contains s t)) :=
  Does.of_calls (v := .bool (Lib.contains s t)) Tryz.func296 rfl rfl (fun C => by simp [RepF]) fun C cargs hg hr => by
    rw [rep_str2 hr]
    refine (Tryz.strings_Contains _ _ m C.w (by simp [str_size]; omega) (glob_int hg (by simp [GL]))).mono ?_
    rintro e w' ⟨rfl, rfl⟩
    exact ⟨rfl, below_same _⟩
structure Rel where
  op : UInt8
  md : Nat
  neg : Bool
  rs : List (Nat × Nat)
def encRg (r : Nat × Nat) : List AV := [.int .i64 r.1, .int .i64 r.2]
def encRel (x : Rel) : List AV := [.int .u8 x.op.toNat, .int .i64 x.md, .bool x.neg, .fsl (x.rs.map encRg)]
theorem encRgs_closed : ∀ rs : List (Nat × Nat), closedLL (rs.map encRg) = true
  | [] => rfl
  | r :: rs => by simp [closedLL, encRg, closedL, closed]; exact encRgs_closed rs
def mrF (s : List UInt8) : Nat → Nat → List (Nat × Nat) → Except (Int × Nat) (List (Nat × Nat) × Nat)
  | 0, a, rs => .ok (rs, a)
  | f + 1, a, rs =>
    if pre s (bl s a) [44] then match spaF s (bl s a + 1) with
      | .error r => .error r
      | .ok (r, b) => mrF s f b (rs ++ [r])
    else .ok (rs, bl s a)
def opS : List UInt8 := [110, 105, 118, 119, 102, 116, 99, 101]
def mdF (s : List UInt8) (a : Nat) : Except (Int × Nat) (Nat × Nat) :=
  if pre s (bl s a) [37] then match valF s (bl s a + 1) with
    | .error r => .error r
    | .ok (m, at_, b) => if m = 0 then .error (3, at_) else .ok (m, b)
  else .ok (0, bl s a)
def sgF (s : List UInt8) (a : Nat) : Except (Int × Nat) (Bool × Nat) :=
  if pre s (bl s a) [33, 61] then .ok (true, bl s a + 2)
  else if pre s (bl s (bl s a)) [61] then .ok (false, bl s (bl s a) + 1) else .error (1, bl s (bl s a))
def relF (s : List UInt8) (a n : Nat) : Except (Int × Nat) (Rel × Nat) :=
  if (wd s a).length ≠ 1 ∨ Lib.contains opS (wd s a) = false then .error (1, bl s a)
  else if 200 < n + 1 then .error (4, bl s a)
  else match mdF s (bl s a + 1) with
    | .error r => .error r
    | .ok (m, b) => match sgF s b with
      | .error r => .error r
      | .ok (neg, c) => match spaF s c with
        | .error r => .error r
        | .ok (r, d) => match mrF s (s.length + 1 - d) d [r] with
          | .error r => .error r
          | .ok (rs, q) => .ok (⟨((wd s a)[0]?).getD 0, m, neg, rs⟩, q)
theorem rel_does (m : Int) (s : List UInt8) (a n : Nat) (F : Fnd) (ha : a ≤ s.length) (hs : s.length < 100000) (hn : n ≤ 200) (ver : Nat) :
    Does Tryz.prog (GL m) 274 [.ptr 0 ver 0 0] [some (rro ver s a n F)] fun ae O => match relF s a n with
      | .error r => ae = .panic (rfault r)
      | .ok (x, b) => ae = .ret (.agg (encRel x)) ∧ O = [some (rro ver s b (n + 1) F)] := by
  refine Does.bodyA tab Tryz.func274 rfl rfl ?_
  refine AC.step tab ?_
  refine gos ?_
  intro v1
  refine gos ?_
  refine AC.step tab ?_
  refine gos ?_
  refine CallW.meth 0 (word_does s a n F ha hs ver) rfl rfl rfl rfl rfl rfl ?_
  have hb := bl_le ha
  have hl : bl s a + (wd s a).length ≤ s.length := tw_le _ hb.2
  refine gos ?_
  refine AC.step tab ?_
  refine gos ?_
  by_cases h1 : (wd s a).length = 1
  case neg =>
    refine CmpW.T ?_
    refine gos ?_
    refine CallW.of0 (rfail_does _ _) rfl ?_
    rintro ae ⟨rfl, _⟩
    refine ⟨rfl, ?_⟩
    refine gos ?_
    exact ⟨by simp, by simp [relF, h1]⟩
  refine CmpW.N ?_
  refine gos ?_
  refine CallW.pure (Contains_r m _ _ (by simp)) rfl rfl ?_
  cases h2 : Lib.contains opS (wd s a) with
  | false =>
    have h2' := h2
    unfold opS at h2'
    rw [h2']
    refine gos ?_
    refine CallW.of0 (rfail_does _ _) rfl ?_
    rintro ae ⟨rfl, _⟩
    refine ⟨rfl, ?_⟩
    refine gos ?_
    exact ⟨by simp, by simp [relF, h2]⟩
  | true =>
  have h2' := h2
  unfold opS at h2'
  rw [h2']
  refine gos ?_
  refine AC.step tab ?_
  refine gos ?_
  by_cases h3 : 200 < n + 1
  · refine CmpW.T ?_
    refine gos ?_
    refine CallW.of0 (rfail_does _ _) rfl ?_
    rintro ae ⟨rfl, _⟩
    refine ⟨rfl, ?_⟩
    refine gos ?_
    exact ⟨by simp, by simp only [relF, h1, h2, if_pos h3]; simp⟩
  refine CmpW.N ?_
  refine gos ?_
  refine AC.step tab ?_
  refine gos ?_
  refine AC.step tab ?_
  refine gos ?_
  obtain ⟨c, hc⟩ : ∃ c, (wd s a)[0]? = some c := ⟨_, List.getElem?_eq_getElem (by omega)⟩
  refine And.intro (by simp) ⟨c, hc, ?_⟩
  refine gos ?_
  intro v2
  refine gos ?_
  have hc1 : ((wd s a)[0]?).getD 0 = c := by rw [hc]; rfl
  have hk := bl_le (s := s) (a := bl s a + 1) (by omega)
  clear hc h2'
  -- the divisor
  refine AC.cutF tab (fun e h => ∃ md b, mdF s (bl s a + 1) = .ok (md, b) ∧ b ≤ s.length ∧ e = [.ptr 0 ver 0 0, .any, .ptr 1 v1 0 0, .any, .ptr 2 v2 0 0] ++ List.replicate 82 .any ∧
    h = [some (rro ver s b (n + 1) F), some ⟨v1, 220, 4, [[.int .u8 0, .int .i64 0, .bool false, .nils]]⟩, some ⟨v2, 220, 4, [[.int .u8 c.toNat, .int .i64 (md : Nat), .bool false, .nils]]⟩]) ?_ ?_
  · refine gos ?_
    cases hp : pre s (bl s (bl s a + 1)) [37] with
    | true =>
      have hle := pre_le hp (by simp)
      simp only [List.length_cons, List.length_nil] at hle
      refine CallW.meth 0 (take_t (bl s (bl s a + 1) + 1) hp rfl (n + 1) F (by omega) hs ver) rfl rfl rfl rfl rfl rfl ?_
      refine gos ?_
      have u1 := value_does (G := GL m) s (bl s (bl s a + 1) + 1) (n + 1) F (by omega) hs ver
      cases hv : valF s (bl s (bl s a + 1) + 1) with
      | error r =>
        rw [hv] at u1
        simp only at u1
        refine CallW.pan1 0 u1 rfl rfl rfl rfl rfl (fun s' hl => ?_)
        refine gos ?_
        exact ⟨by rw [hl]; simp, by simp [relF, h1, h2, h3, mdF, hp, hv]⟩
      | ok q =>
        obtain ⟨md, at_, b⟩ := q
        rw [hv] at u1
        simp only at u1
        refine CallW.meth 0 u1 rfl rfl rfl rfl rfl rfl ?_
        have hb2 := valF_le (by omega) hv
        refine gos ?_
        by_cases h0 : md = 0
        · refine CmpW.T ?_
          refine gos ?_
          refine CallW.of0 (rfail_does _ _) rfl ?_
          rintro ae ⟨rfl, _⟩
          refine ⟨rfl, ?_⟩
          refine gos ?_
          exact ⟨by simp, by simp [relF, h1, h2, h3, mdF, hp, hv, h0]⟩
        · refine CmpW.N ?_
          refine gos ?_
          exact ⟨_, 3, fgts, md, b, by simp [mdF, hp, hv, h0], hb2.2, rfl, rfl⟩
    | false =>
      refine CallW.meth 0 (take_f hp (n + 1) F (by omega) hs ver) rfl rfl rfl rfl rfl rfl ?_
      refine gos ?_
      exact ⟨_, 3, fgts, 0, bl s (bl s a + 1), by simp [mdF, hp], hk.2, rfl, rfl⟩
  rintro e h ⟨md, b, hM, hbl, rfl, rfl⟩
  have q1 := bl_le hbl
  -- the sign
  refine AC.cutF tab (fun e h => ∃ sg c', sgF s b = .ok (sg, c') ∧ c' ≤ s.length ∧ e = [.ptr 0 ver 0 0, .any, .ptr 1 v1 0 0, .any, .ptr 2 v2 0 0] ++ List.replicate 82 .any ∧
    h = [some (rro ver s c' (n + 1) F), some ⟨v1, 220, 4, [[.int .u8 0, .int .i64 0, .bool false, .nils]]⟩, some ⟨v2, 220, 4, [[.int .u8 c.toNat, .int .i64 md, .bool sg, .nils]]⟩]) ?_ ?_
  · refine gos ?_
    cases hq : pre s (bl s b) [33, 61] with
    | true =>
      have hle2 := pre_le hq (by simp)
      simp only [List.length_cons, List.length_nil] at hle2
      refine CallW.meth 0 (take_t (bl s b + 2) hq rfl (n + 1) F hbl hs ver) rfl rfl rfl rfl rfl rfl ?_
      refine gos ?_
      exact ⟨_, 3, fgts, true, bl s b + 2, by simp [sgF, hq], by omega, rfl, rfl⟩
    | false =>
      refine CallW.meth 0 (take_f hq (n + 1) F hbl hs ver) rfl rfl rfl rfl rfl rfl ?_
      refine gos ?_
      have q2 := bl_le q1.2
      have w1 := want_does (G := GL m) s [61] (bl s b) (n + 1) F q1.2 hs ver
      cases hq2 : pre s (bl s (bl s b)) [61] with
      | false =>
        rw [hq2] at w1
        simp only at w1
        refine CallW.pan1 0 w1 rfl rfl rfl rfl rfl (fun s' hl => ?_)
        refine gos ?_
        exact ⟨by rw [hl]; simp, by simp [relF, h1, h2, h3, hM, sgF, hq, hq2]⟩
      | true =>
        have hle2 := pre_le hq2 (by simp)
        simp only [List.length_cons, List.length_nil] at hle2
        rw [hq2] at w1
        simp only [List.length_cons, List.length_nil, Nat.zero_add] at w1
        refine CallW.meth 0 w1 rfl rfl rfl rfl rfl rfl ?_
        refine gos ?_
        exact ⟨_, 3, fgts, false, bl s (bl s b) + 1, by simp [sgF, hq, hq2], by omega, rfl, rfl⟩
  rintro e h ⟨sg, c', hS, hc2, rfl, rfl⟩
  -- the first range
  have r1 := span_does (G := GL m) s c' (n + 1) F hc2 hs ver
  refine AC.cutF tab (fun e h => ∃ (r : Nat × Nat) (d vw : Nat) (o3 : Option AObj), spaF s c' = .ok (r, d) ∧ d ≤ s.length ∧ e = [.ptr 0 ver 0 0, .any, .ptr 1 v1 0 0, .any, .ptr 2 v2 0 0] ++ List.replicate 82 .any ∧
    h = [some (rro ver s d (n + 1) F), some ⟨v1, 220, 4, [[.int .u8 0, .int .i64 0, .bool false, .nils]]⟩, some ⟨v2, 220, 4, [[.int .u8 c.toNat, .int .i64 md, .bool sg, .sl 4 vw]]⟩, o3, some ⟨vw, 305, 2, [encRg r]⟩]) ?_ ?_
  · cases hsp : spaF s c' with
    | error r =>
      rw [hsp] at r1
      simp only at r1
      refine DrawW.P (.take 0 (.take 2 (.fork (.cons 1 (.take 3 (.take 4 (.take 5 (.take 6 (.take 7 .done))))) (.cons 3 (.fork (.cons 1 (.take 4 (.take 5 (.take 6 (.take 7 .done)))) (.cons 4 (.take 1 (.take 5 (.take 6 (.take 7 .done)))) .nil))) .nil))))) ?_
      (repeat' (first | exact trivial | refine gon ?_ | refine CallW.pan1 0 r1 rfl rfl rfl rfl rfl (fun s' hl => ?_) | refine And.intro ?_ ?_))
      all_goals first | (rw [hl]; simp; done) | (simp [relF, h1, h2, h3, hM, hS, hsp]; done)
    | ok q =>
      obtain ⟨r, d⟩ := q
      rw [hsp] at r1
      simp only at r1
      have hd := spaF_le hc2 hsp
      refine DrawW.P (.take 0 (.take 2 (.fork (.cons 1 (.take 3 (.take 4 (.take 5 (.take 6 (.take 7 .done))))) (.cons 3 (.fork (.cons 1 (.take 4 (.take 5 (.take 6 (.take 7 .done)))) (.cons 4 (.take 1 (.take 5 (.take 6 (.take 7 .done)))) .nil))) .nil))))) ?_
      (repeat' (first | exact trivial | refine gon ?_ | refine CallW.meth 0 r1 rfl rfl rfl rfl rfl rfl ?_ | refine fun (vv : Nat) => ?_ | (refine And.intro (And.intro (fun y hy => by rcases List.mem_singleton.1 hy with rfl; rfl) (fun y hy => by rcases List.mem_singleton.1 hy with rfl; rfl)) ?_; refine And.intro (And.intro rfl trivial) ?_) | refine And.intro ?_ ?_))
      all_goals exact ⟨_, 5, fgts, r, d, vv, _, rfl, hd.2, rfl, rfl⟩
  rintro e h ⟨r, d, vw, o3, hsp, hd, rfl, rfl⟩
  -- more of them
  refine AC.cutF tab (fun e h => ∃ (rs : List (Nat × Nat)) (b' vw : Nat) (o3 : Option AObj), mrF s (s.length + 1 - d) d [r] = .ok (rs, b') ∧ b' ≤ s.length ∧ e = [.ptr 0 ver 0 0, .any, .ptr 1 v1 0 0, .any, .ptr 2 v2 0 0] ++ List.replicate 82 .any ∧
    h = [some (rro ver s b' (n + 1) F), some ⟨v1, 220, 4, [[.int .u8 0, .int .i64 0, .bool false, .nils]]⟩, some ⟨v2, 220, 4, [[.int .u8 c.toNat, .int .i64 md, .bool sg, .sl 4 vw]]⟩, o3, some ⟨vw, 305, 2, rs.map encRg⟩]) ?_ ?_
  · refine AC.loopC tab (fun f e h => ∃ (rs : List (Nat × Nat)) (b' vw : Nat) (o3 : Option AObj), s.length < f + b' ∧ b' ≤ s.length ∧ rs.length ≤ b' + 1 ∧ mrF s (s.length + 1 - d) d [r] = mrF s f b' rs ∧
      e = [.ptr 0 ver 0 0, .any, .ptr 1 v1 0 0, .any, .ptr 2 v2 0 0] ++ List.replicate 82 .any ∧
      h = [some (rro ver s b' (n + 1) F), some ⟨v1, 220, 4, [[.int .u8 0, .int .i64 0, .bool false, .nils]]⟩, some ⟨v2, 220, 4, [[.int .u8 c.toNat, .int .i64 md, .bool sg, .sl 4 vw]]⟩, o3, some ⟨vw, 305, 2, rs.map encRg⟩])
      (s.length + 1 - d) ⟨_, fgts, [r], d, vw, o3, by omega, hd, by simp, rfl, rfl, rfl⟩ ?_
    clear o3 vw
    rintro f e h ⟨rs, b', vw, o3, hf, hb', hrl, hmr, rfl, rfl⟩
    obtain ⟨f, rfl⟩ : ∃ q, f = q + 1 := ⟨f - 1, by omega⟩
    have hq1 := bl_le hb'
    refine gos ?_
    cases hz : pre s (bl s b') [44] with
    | false =>
      simp only [mrF, hz, Bool.false_eq_true, if_false] at hmr
      refine CallW.meth 0 (take_f hz (n + 1) F hb' hs ver) rfl rfl rfl rfl rfl rfl ?_
      refine gos ?_
      exact ⟨_, 5, fgts, rs, bl s b', vw, o3, hmr, hq1.2, rfl, rfl⟩
    | true =>
      have hle3 := pre_le hz (by simp)
      simp only [List.length_cons, List.length_nil] at hle3
      refine CallW.meth 0 (take_t (bl s b' + 1) hz rfl (n + 1) F hb' hs ver) rfl rfl rfl rfl rfl rfl ?_
      refine gos ?_
      have r2 := span_does (G := GL m) s (bl s b' + 1) (n + 1) F (by omega) hs ver
      cases hsp2 : spaF s (bl s b' + 1) with
      | error q =>
        rw [hsp2] at r2
        simp only at r2
        simp only [mrF, hz, if_true, hsp2] at hmr
        refine DrawW.P (.take 0 (.take 2 (.fork (.cons 1 (.take 3 (.take 4 (.take 5 (.take 6 (.take 7 .done))))) (.cons 3 (.fork (.cons 1 (.take 4 (.take 5 (.take 6 (.take 7 .done)))) (.cons 4 (.take 1 (.take 5 (.take 6 (.take 7 .done)))) .nil))) .nil))))) ?_
        (repeat' (first | exact trivial | refine gon ?_ | refine CallW.pan1 0 r2 rfl rfl rfl rfl rfl (fun s' hl => ?_) | refine And.intro ?_ ?_))
        all_goals first | (rw [hl]; simp; done) | (simp [relF, h1, h2, h3, hM, hS, hsp, hmr]; done)
      | ok q =>
        obtain ⟨y, d2⟩ := q
        rw [hsp2] at r2
        simp only at r2
        simp only [mrF, hz, if_true, hsp2] at hmr
        have hd2 := spaF_le (by omega) hsp2
        refine DrawW.P (.take 0 (.take 2 (.fork (.cons 1 (.take 3 (.take 4 (.take 5 (.take 6 (.take 7 .done))))) (.cons 3 (.fork (.cons 1 (.take 4 (.take 5 (.take 6 (.take 7 .done)))) (.cons 4 (.take 1 (.take 5 (.take 6 (.take 7 .done)))) .nil))) .nil))))) ?_
        (repeat' (first | exact trivial | refine gon ?_ | refine CallW.meth 0 r2 rfl rfl rfl rfl rfl rfl ?_ | refine fun (vv : Nat) => ?_ | (refine And.intro (And.intro (fun y hy => by rcases List.mem_singleton.1 hy with rfl; rfl) (fun y hy => by rcases List.mem_singleton.1 hy with rfl; rfl)) ?_; refine And.intro (And.intro rfl trivial) ?_) | refine gobnd ?_ | refine And.intro ?_ ?_))
        all_goals
          refine ⟨f, _, 5, by omega, fgts, rs ++ [y], d2, vv, o3, by omega, by omega, by simp; omega, hmr, rfl, ?_⟩
          rw [List.map_append]; rfl
  rintro e h ⟨rs, b', vw', o3', hmr, hb', rfl, rfl⟩
  refine AC.go tab ?_
  refine gos ?_
  refine RetW.wk (r' := .agg (encRel ⟨c, md, sg, rs⟩)) (s' := [some (rro ver s b' (n + 1) F), some ⟨v1, 220, 4, [[.int .u8 c.toNat, .int .i64 md, .bool sg, .sl 4 vw']]⟩, some ⟨v2, 220, 4, [[.int .u8 c.toNat, .int .i64 md, .bool sg, .sl 4 vw']]⟩, o3', none]) (by simp) rfl ?_ ?_
  · exact Wk.agg (cs := [.int .u8 c.toNat, .int .i64 md, .bool sg, .sl 4 vw']) (cs' := encRel ⟨c, md, sg, rs⟩) rfl (Wk.row (k := 3) (i := 4) (o := ⟨vw', 305, 2, rs.map encRg⟩) rfl rfl rfl (encRgs_closed rs))
  · have hR : relF s a n = .ok (⟨c, md, sg, rs⟩, b') := by
      unfold relF
      rw [if_neg (by simp [h1, h2]), if_neg h3]
      simp only [hM, hS, hsp, hmr, hc1]
    simp only [hR]
    (first | exact ⟨rfl, rfl⟩ | exact ⟨trivial, rfl⟩ | exact ⟨rfl, trivial⟩ | rfl | trivial | done)
end Go.Proofs.YtjjppmbojcgdgaaGreatDoor
