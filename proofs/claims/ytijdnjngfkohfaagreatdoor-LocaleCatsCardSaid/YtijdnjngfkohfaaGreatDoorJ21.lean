/- The reader of rules: a rule. -/
import Derived.Test.YtijdnjngfkohfaaGreatDoorJ08
import Derived.Test.YtijdnjngfkohfaaGreatDoorJ03
import Derived.Test.YtijdnjngfkohfaaGreatDoorJ04
set_option linter.unusedVariables false
set_option linter.unusedSimpArgs false
set_option maxRecDepth 100000
set_option maxHeartbeats 4000000

namespace Go.Proofs.YtijdnjngfkohfaaGreatDoor
open Go Go.Abs
attribute [local irreducible] DrawW CallW RetW AC Does CmpW
variable {G : Globs}
def hexS : List UInt8 := [48, 49, 50, 51, 52, 53, 54, 55, 56, 57, 97, 98, 99, 100, 101, 102]
theorem Trim_does (s : List UInt8) (hs : s.length < 1000000) : Does Tryz.prog G 279 [.str s, .str hexS] [] fun ae _ => ae = .ret (.str (Lib.trimS s hexS)) :=
  Does.of_calls (v := .string ⟨⟨Lib.trimS s hexS⟩⟩) Tryz.func279 rfl rfl (fun C => by simp [RepF]) fun C cargs hg hr => by
    rw [rep_str2 hr]
    exact Any.strings_Trim_laid Tryz.lays160 (by kernel_rfl) ⟨⟨s⟩⟩ ⟨⟨hexS⟩⟩ C.w (by simp [str_size]; omega) (by decide) (ascii_of_all (by decide))
theorem CutPrefix_does (s t : List UInt8) : Does Tryz.prog G 278 [.str s, .str t] [] fun ae _ => ae = .ret (.tuple [.str (Lib.trimPrefix s t), .bool (t.isPrefixOf s)]) :=
  Does.of_calls (v := .tuple #[.string ⟨⟨Lib.trimPrefix s t⟩⟩, .bool (t.isPrefixOf s)]) Tryz.func278 rfl rfl (fun C => by simp [RepF, RepFL]) fun C cargs hg hr => by
    rw [rep_str2 hr]
    refine (Tryz.strings_CutPrefix ⟨⟨s⟩⟩ ⟨⟨t⟩⟩ C.w).mono ?_
    rintro e w' ⟨rfl, rfl⟩
    exact ⟨rfl, below_same _⟩
theorem dropW_nil (p : UInt8 → Bool) : ∀ {l : List UInt8}, l.dropWhile p = [] → ∀ c ∈ l, p c = true
  | [], _, c, hc => by cases hc
  | x :: l, h, c, hc => by
    by_cases hp : p x = true
    · rw [List.dropWhile_cons_of_pos hp] at h
      rcases List.mem_cons.1 hc with rfl | hc
      · exact hp
      · exact dropW_nil p h c hc
    · rw [List.dropWhile_cons_of_neg hp] at h
      cases h
theorem trimS_hex {l : List UInt8} (h : Lib.trimS l hexS = []) : ∀ c ∈ l, isHex c = true := by
  have hp : ∀ c : UInt8, hexS.contains c = true → isHex c = true := by
    intro c hc
    have : c ∈ hexS := by simpa using hc
    simp only [hexS, List.mem_cons, List.mem_nil_iff, or_false] at this
    rcases this with rfl | rfl | rfl | rfl | rfl | rfl | rfl | rfl | rfl | rfl | rfl | rfl | rfl | rfl | rfl | rfl <;> decide
  unfold Lib.trimS Lib.trimLeftS Lib.trimRightS at h
  intro c hc
  refine hp c ?_
  have hr : c ∈ l.reverse := by simpa using hc
  rw [← List.takeWhile_append_dropWhile (p := (hexS.contains ·)) (l := l.reverse), List.mem_append] at hr
  rcases hr with hr | hr
  · exact List.all_eq_true.1 List.all_takeWhile c hr
  · exact dropW_nil _ h c (by simpa using hr)
def escS : List UInt8 := [91, 93, 45, 94, 92, 32]
def uniS : List UInt8 := [92, 117, 123]
def uniF (s : List UInt8) (a : Nat) : Option (Nat × Nat) :=
  if uniS.isPrefixOf (Lib.cut (s.drop a) [125]).1 = true ∧ (Lib.cut (s.drop a) [125]).2.2 = true ∧ 1 ≤ (Lib.trimPrefix (Lib.cut (s.drop a) [125]).1 uniS).length ∧ (Lib.trimPrefix (Lib.cut (s.drop a) [125]).1 uniS).length ≤ 6
      ∧ Lib.trimS (Lib.trimPrefix (Lib.cut (s.drop a) [125]).1 uniS) hexS = [] ∧ hexV (Lib.trimPrefix (Lib.cut (s.drop a) [125]).1 uniS) ≤ 1114111 then
    some (hexV (Lib.trimPrefix (Lib.cut (s.drop a) [125]).1 uniS), a + ((Lib.trimPrefix (Lib.cut (s.drop a) [125]).1 uniS).length + 4))
  else none
def escF (s : List UInt8) (a : Nat) : Option (Nat × Nat) := match (s.drop a)[1]? with
  | some c => if 0 ≤ Lib.indexByte escS c then some (c.toNat, a + 2) else uniF s a
  | none => uniF s a
theorem uniF_le {s : List UInt8} {a : Nat} (ha : a ≤ s.length) {v b : Nat} (h : uniF s a = some (v, b)) : a < b ∧ b ≤ s.length ∧ v ≤ 1114111 := by
  unfold uniF at h
  split at h
  · rename_i hc
    obtain ⟨h1, h2, h3, h4, h5, h6⟩ := hc
    simp only [Option.some.injEq, Prod.mk.injEq] at h
    obtain ⟨rfl, rfl⟩ := h
    refine ⟨by omega, ?_, h6⟩
    have hcut : 0 ≤ Lib.index (s.drop a) [125] := by
      unfold Lib.cut at h2
      split at h2
      · assumption
      · cases h2
    have hroom := Lib.index_room _ _ hcut
    have hlen : (Lib.cut (s.drop a) [125]).1.length ≤ (Lib.index (s.drop a) [125]).toNat := by
      unfold Lib.cut; rw [if_pos hcut]; simp; omega
    have hpl : (Lib.trimPrefix (Lib.cut (s.drop a) [125]).1 uniS).length + 3 ≤ (Lib.cut (s.drop a) [125]).1.length := by
      unfold Lib.trimPrefix Lib.hasPrefix
      rw [if_pos h1]
      have := (List.isPrefixOf_iff_prefix.1 h1).length_le
      simp only [uniS, List.length_cons, List.length_nil, List.length_drop] at this ⊢
      omega
    simp only [List.length_drop, List.length_cons, List.length_nil] at hroom
    omega
  · cases h
theorem escF_le {s : List UInt8} {a : Nat} (ha : a ≤ s.length) {v b : Nat} (h : escF s a = some (v, b)) : a < b ∧ b ≤ s.length ∧ v ≤ 1114111 := by
  unfold escF at h
  split at h
  · rename_i c hc
    split at h
    · simp only [Option.some.injEq, Prod.mk.injEq] at h
      have := (List.getElem?_eq_some_iff.1 hc).1
      rw [List.length_drop] at this
      have hcl := c.toNat_lt
      omega
    · exact uniF_le ha h
  · exact uniF_le ha h
theorem escape_does (m : Int) (s : List UInt8) (a : Nat) (bad : Int) (ha : a ≤ s.length) (hs : s.length < 100000) (ver : Nat) :
    Does Tryz.prog (GL m) 257 [.ptr 0 ver 0 0] [some (cro ver s a bad)] fun ae O => match escF s a with
      | some (v, b) => ae = .ret (.int .i32 v) ∧ O = [some (cro ver s b bad)]
      | none => ae = .ret (.int .i32 0) ∧ O = [some (cro ver s a (bd a bad))] := by
  refine Does.bodyA tab Tryz.func257 rfl rfl ?_
  refine AC.step tab ?_
  refine gos ?_
  refine AC.step tab ?_
  refine DrawW.L ?_
  refine gos ?_
  refine And.intro (And.intro (by omega) (by omega)) ?_
  refine gos ?_
  refine AC.cutF tab (fun e h => escF s a = uniF s a ∧ e = [.ptr 0 ver 0 0, .any, .any, .str (s.drop a)] ++ List.replicate 87 .any ∧ h = [some (cro ver s a bad)]) ?_ ?_
  · refine gos ?_
    by_cases h1 : 1 < (s.drop a).length
    · obtain ⟨c, hc⟩ : ∃ c, (s.drop a)[1]? = some c := ⟨_, List.getElem?_eq_getElem h1⟩
      have ha2 : a + 2 ≤ s.length := by rw [List.length_drop] at h1; omega
      have hcl := c.toNat_lt
      refine CmpW.t (by rw [List.length_drop] at h1; simp; omega) ?_
      refine gos ?_
      refine And.intro (by simp) ⟨c, hc, ?_⟩
      refine gos ?_
      refine CallW.pure (IndexByte_does _ escS _) rfl rfl ?_
      have e1 : (c.toNat : Int).toNat.toUInt8 = c := by rw [Int.toNat_natCast]; simp
      rw [e1]
      refine gos ?_
      by_cases h2 : 0 ≤ Lib.indexByte escS c
      · refine CmpW.t (by simpa using h2) ?_
        refine gos ?_
        refine And.intro (by simp) ⟨c, hc, ?_⟩
        refine gos ?_
        refine RetW.plain (by simp) ?_
        simp only [escF, hc, if_pos h2]
        refine ⟨?_, rfl⟩
        rw [wrap_i32 (by omega) (by omega)]
      · refine CmpW.f (by simpa using h2) ?_
        refine gos ?_
        exact ⟨_, 1, fgts, by simp only [escF, hc, if_neg h2], rfl, rfl⟩
    · refine CmpW.f (by rw [List.length_drop] at h1; simp; omega) ?_
      refine gos ?_
      exact ⟨_, 1, fgts, by simp only [escF, List.getElem?_eq_none (show (s.drop a).length ≤ 1 by omega)], rfl, rfl⟩
  rintro e h ⟨hE, rfl, rfl⟩
  rw [hE]
  obtain ⟨q, hq⟩ : ∃ q, q = Lib.cut (s.drop a) [125] := ⟨_, rfl⟩
  obtain ⟨d, hd⟩ : ∃ d, d = Lib.trimPrefix q.1 uniS := ⟨_, rfl⟩
  have hU : uniF s a = if uniS.isPrefixOf q.1 = true ∧ q.2.2 = true ∧ 1 ≤ d.length ∧ d.length ≤ 6 ∧ Lib.trimS d hexS = [] ∧ hexV d ≤ 1114111 then some (hexV d, a + (d.length + 4)) else none := by rw [hd, hq]; rfl
  have hql : q.1.length ≤ s.length := by
    have := cut_le (s.drop a) [125]
    rw [← hq, List.length_drop] at this; omega
  have hdl : d.length ≤ s.length := by
    rw [hd]; unfold Lib.trimPrefix; split
    · rw [List.length_drop]; omega
    · omega
  refine AC.step tab ?_
  refine gos ?_
  refine CallW.pure (Cut_does m (s.drop a) [125] (by simp; omega)) rfl rfl ?_
  rw [← hq]
  refine gos ?_
  refine AC.cutF tab (fun e h => uniF s a = none ∧ e = [.ptr 0 ver 0 0] ++ List.replicate 90 .any ∧ h = [some (cro ver s a bad)]) ?_ ?_
  · refine gos ?_
    refine CallW.pure (CutPrefix_does q.1 uniS) rfl rfl ?_
    rw [← hd]
    cases h1 : uniS.isPrefixOf q.1 with
    | false =>
      refine gos ?_
      exact ⟨_, 1, fgts, by rw [hU, if_neg (by simp [h1])], rfl, rfl⟩
    | true =>
    refine gos ?_
    cases h2 : q.2.2 with
    | false =>
      refine gos ?_
      exact ⟨_, 1, fgts, by rw [hU, if_neg (by simp [h2])], rfl, rfl⟩
    | true =>
    refine gos ?_
    by_cases h3 : 1 ≤ d.length
    case neg =>
      refine CmpW.N ?_
      refine gos ?_
      exact ⟨_, 1, fgts, by rw [hU, if_neg (fun h => h3 h.2.2.1)], rfl, rfl⟩
    refine CmpW.T ?_
    refine gos ?_
    by_cases h4 : d.length ≤ 6
    case neg =>
      refine CmpW.N ?_
      refine gos ?_
      exact ⟨_, 1, fgts, by rw [hU, if_neg (fun h => h4 h.2.2.2.1)], rfl, rfl⟩
    refine CmpW.T ?_
    refine gos ?_
    refine CallW.pure (Trim_does d (by omega)) rfl rfl ?_
    refine gos ?_
    by_cases h5 : Lib.trimS d hexS = []
    case neg =>
      refine CmpW.f (by simpa using h5) ?_
      refine gos ?_
      exact ⟨_, 1, fgts, by rw [hU, if_neg (fun h => h5 h.2.2.2.2.1)], rfl, rfl⟩
    refine CmpW.t (by simpa using h5) ?_
    refine gos ?_
    have hx := trimS_hex h5
    have hv : hexV d < 16777216 := by
      have k1 := hexV_lt d.length d rfl hx
      have k2 : 16 ^ d.length ≤ 16 ^ 6 := Nat.pow_le_pow_right (by omega) h4
      omega
    refine CallW.pure (ParseInt_does d (by intro e; rw [e] at h3; simp at h3) h4 hx) rfl rfl ?_
    refine gos ?_
    have ew : IntKind.i32.wrap (hexV d : Int) = (hexV d : Int) := wrap_i32 (by omega) (by omega)
    rw [ew]
    by_cases h6 : hexV d ≤ 1114111
    · have hU2 : uniF s a = some (hexV d, a + (d.length + 4)) := by rw [hU, if_pos ⟨h1, h2, h3, h4, h5, h6⟩]
      have hle := uniF_le ha hU2
      refine CmpW.T ?_
      refine gos ?_
      rw [ew]
      refine RetW.plain (by simp) ?_
      rw [hU2]
      exact ⟨rfl, rfl⟩
    · refine CmpW.N ?_
      refine gos ?_
      exact ⟨_, 1, fgts, by rw [hU, if_neg (fun h => h6 h.2.2.2.2.2)], rfl, rfl⟩
  rintro e h ⟨hN, rfl, rfl⟩
  refine AC.go tab ?_
  refine gos ?_
  refine CallW.meth 0 (cfail_does s a bad ver) rfl rfl rfl rfl rfl rfl ?_
  refine gos ?_
  refine RetW.plain (by simp) ?_
  rw [hN]
  exact ⟨rfl, rfl⟩
def conF (s : List UInt8) (a : Nat) : Option (Nat × Nat) :=
  if pk s a = 92 then escF s (bl s a)
  else if pk s a = 91 ∨ pk s a = 93 ∨ pk s a = 45 ∨ pk s a = 94 ∨ bl s a = s.length then none
  else if (dec (s.drop (bl s a))).1 = 65533 ∧ (dec (s.drop (bl s a))).2 < 2 then none
  else some ((dec (s.drop (bl s a))).1, bl s a + (dec (s.drop (bl s a))).2)
theorem cone_does (m : Int) (s : List UInt8) (a : Nat) (bad : Int) (ha : a ≤ s.length) (hs : s.length < 100000) (ver : Nat) :
    Does Tryz.prog (GL m) 229 [.ptr 0 ver 0 0] [some (cro ver s a bad)] fun ae O => match conF s a with
      | some (v, b) => ae = .ret (.int .i32 v) ∧ O = [some (cro ver s b bad)]
      | none => ae = .ret (.int .i32 0) ∧ O = [some (cro ver s (bl s a) (bd (bl s a) bad))] := by
  have hb := bl_le ha
  refine Does.bodyA tab Tryz.func229 rfl rfl ?_
  refine AC.step tab ?_
  refine gos ?_
  refine AC.cutF tab (fun e h => ¬ pk s a = 92 ∧ ¬ (pk s a = 91 ∨ pk s a = 93 ∨ pk s a = 45 ∨ pk s a = 94 ∨ bl s a = s.length) ∧ e = [.ptr 0 ver 0 0] ++ List.replicate 63 .any ∧ h = [some (cro ver s (bl s a) bad)]) ?_ ?_
  · refine gos ?_
    refine CallW.meth 0 (cpeek_does s a bad ha hs ver) rfl rfl rfl rfl rfl rfl ?_
    refine gos ?_
    by_cases h1 : pk s a = 92
    · refine CmpW.t (by simp; omega) ?_
      have hE := escape_does m s (bl s a) bad hb.2 hs ver
      refine gos ?_
      cases hR : escF s (bl s a) with
      | none =>
        rw [hR] at hE
        simp only at hE
        refine CallW.meth 0 hE rfl rfl rfl rfl rfl rfl ?_
        refine gos ?_
        refine RetW.plain (by simp) ?_
        simp only [conF, if_pos h1, hR]
        (first | exact ⟨rfl, rfl⟩ | exact ⟨trivial, rfl⟩ | exact ⟨rfl, trivial⟩ | rfl | trivial | done)
      | some q =>
        obtain ⟨v, b⟩ := q
        rw [hR] at hE
        simp only at hE
        refine CallW.meth 0 hE rfl rfl rfl rfl rfl rfl ?_
        refine gos ?_
        refine RetW.plain (by simp) ?_
        simp only [conF, if_pos h1, hR]
        (first | exact ⟨rfl, rfl⟩ | exact ⟨trivial, rfl⟩ | exact ⟨rfl, trivial⟩ | rfl | trivial | done)
    refine CmpW.f (by simp; omega) ?_
    refine gos ?_
    by_cases h2 : pk s a = 91
    · refine CmpW.t (by simp; omega) ?_
      refine gos ?_
      refine CallW.meth 0 (cfail_does s _ bad ver) rfl rfl rfl rfl rfl rfl ?_
      refine gos ?_
      refine RetW.plain (by simp) ?_
      simp only [conF, if_neg h1, if_pos (show pk s a = 91 ∨ pk s a = 93 ∨ pk s a = 45 ∨ pk s a = 94 ∨ bl s a = s.length by omega)]
      (first | exact ⟨rfl, rfl⟩ | exact ⟨trivial, rfl⟩ | exact ⟨rfl, trivial⟩ | rfl | trivial | done)
    refine CmpW.f (by simp; omega) ?_
    refine gos ?_
    by_cases h3 : pk s a = 93
    · refine CmpW.t (by simp; omega) ?_
      refine gos ?_
      refine CallW.meth 0 (cfail_does s _ bad ver) rfl rfl rfl rfl rfl rfl ?_
      refine gos ?_
      refine RetW.plain (by simp) ?_
      simp only [conF, if_neg h1, if_pos (show pk s a = 91 ∨ pk s a = 93 ∨ pk s a = 45 ∨ pk s a = 94 ∨ bl s a = s.length by omega)]
      (first | exact ⟨rfl, rfl⟩ | exact ⟨trivial, rfl⟩ | exact ⟨rfl, trivial⟩ | rfl | trivial | done)
    refine CmpW.f (by simp; omega) ?_
    refine gos ?_
    by_cases h4 : pk s a = 45
    · refine CmpW.t (by simp; omega) ?_
      refine gos ?_
      refine CallW.meth 0 (cfail_does s _ bad ver) rfl rfl rfl rfl rfl rfl ?_
      refine gos ?_
      refine RetW.plain (by simp) ?_
      simp only [conF, if_neg h1, if_pos (show pk s a = 91 ∨ pk s a = 93 ∨ pk s a = 45 ∨ pk s a = 94 ∨ bl s a = s.length by omega)]
      (first | exact ⟨rfl, rfl⟩ | exact ⟨trivial, rfl⟩ | exact ⟨rfl, trivial⟩ | rfl | trivial | done)
    refine CmpW.f (by simp; omega) ?_
    refine gos ?_
    by_cases h5 : pk s a = 94
    · refine CmpW.t (by simp; omega) ?_
      refine gos ?_
      refine CallW.meth 0 (cfail_does s _ bad ver) rfl rfl rfl rfl rfl rfl ?_
      refine gos ?_
      refine RetW.plain (by simp) ?_
      simp only [conF, if_neg h1, if_pos (show pk s a = 91 ∨ pk s a = 93 ∨ pk s a = 45 ∨ pk s a = 94 ∨ bl s a = s.length by omega)]
      (first | exact ⟨rfl, rfl⟩ | exact ⟨trivial, rfl⟩ | exact ⟨rfl, trivial⟩ | rfl | trivial | done)
    refine CmpW.f (by simp; omega) ?_
    refine gos ?_
    refine DrawW.L ?_
    refine gos ?_
    by_cases h6 : bl s a = s.length
    · refine CmpW.t (by simp; omega) ?_
      refine gos ?_
      refine CallW.meth 0 (cfail_does s _ bad ver) rfl rfl rfl rfl rfl rfl ?_
      refine gos ?_
      refine RetW.plain (by simp) ?_
      simp only [conF, if_neg h1, if_pos (show pk s a = 91 ∨ pk s a = 93 ∨ pk s a = 45 ∨ pk s a = 94 ∨ bl s a = s.length by omega)]
      (first | exact ⟨rfl, rfl⟩ | exact ⟨trivial, rfl⟩ | exact ⟨rfl, trivial⟩ | rfl | trivial | done)
    refine CmpW.f (by simp; omega) ?_
    refine gos ?_
    exact ⟨_, 1, fgts, h1, by omega, rfl, rfl⟩
  rintro e h ⟨h1, h2, rfl, rfl⟩
  have hC : conF s a = if (dec (s.drop (bl s a))).1 = 65533 ∧ (dec (s.drop (bl s a))).2 < 2 then none else some ((dec (s.drop (bl s a))).1, bl s a + (dec (s.drop (bl s a))).2) := by
    simp only [conF, if_neg h1, if_neg h2]
  have hdl := dec_le (s.drop (bl s a))
  rw [List.length_drop] at hdl
  refine AC.step tab ?_
  refine DrawW.L ?_
  refine gos ?_
  refine And.intro (And.intro (by omega) (by omega)) ?_
  refine CallW.pure (Decode_does m _) rfl rfl ?_
  rw [Int.toNat_natCast]
  generalize dec (s.drop (bl s a)) = q at hC hdl
  obtain ⟨p, w⟩ := q
  simp only at hC hdl
  refine gos ?_
  refine AC.step tab ?_
  refine gos ?_
  by_cases h3 : p = 65533
  · refine CmpW.t (by simp; omega) ?_
    refine gos ?_
    by_cases h4 : w < 2
    · refine CmpW.t (by simp; omega) ?_
      refine gos ?_
      refine CallW.meth 0 (cfail_does s _ bad ver) rfl rfl rfl rfl rfl rfl ?_
      refine gos ?_
      refine RetW.plain (by simp) ?_
      rw [hC, if_pos ⟨h3, h4⟩]
      (first | exact ⟨rfl, rfl⟩ | exact ⟨trivial, rfl⟩ | exact ⟨rfl, trivial⟩ | rfl | trivial | done)
    · refine CmpW.f (by simp; omega) ?_
      rw [if_neg (fun h => h4 h.2)] at hC
      refine gos ?_
      refine AC.go tab ?_
      refine gos ?_
      refine RetW.plain (by simp) ?_
      rw [hC]
      (first | exact ⟨rfl, rfl⟩ | exact ⟨trivial, rfl⟩ | exact ⟨rfl, trivial⟩ | rfl | trivial | done)
  · refine CmpW.f (by simp; omega) ?_
    rw [if_neg (fun h => h3 h.1)] at hC
    refine gos ?_
    refine AC.go tab ?_
    refine gos ?_
    refine RetW.plain (by simp) ?_
    rw [hC]
    (first | exact ⟨rfl, rfl⟩ | exact ⟨trivial, rfl⟩ | exact ⟨rfl, trivial⟩ | rfl | trivial | done)
end Go.Proofs.YtijdnjngfkohfaaGreatDoor

namespace Go.Proofs.YtijdnjngfkohfaaGreatDoor
open Go Go.Abs
attribute [local irreducible] DrawW CallW RetW AC Does CmpW
structure Rul where
  cat : Nat
  any : List (List Rel)
  smp : List UInt8
def encAll (xs : List Rel) : List AV := [.fsl (xs.map encRel)]
def encRul (x : Rul) : List AV := [.int .i64 x.cat, .fsl (x.any.map encAll), .str x.smp]
theorem encAlls_closed : ∀ rs : List (List Rel), closedLL (rs.map encAll) = true
  | [] => rfl
  | r :: rs => by simp [closedLL, encAll, closedL, closed]; exact encAlls_closed rs
def Fnd.get (F : Fnd) : Nat → Bool
  | 0 => F.c0
  | 1 => F.c1
  | 2 => F.c2
  | 3 => F.c3
  | 4 => F.c4
  | _ => F.c5
def Fnd.put (F : Fnd) : Nat → Fnd
  | 0 => { F with c0 := true }
  | 1 => { F with c1 := true }
  | 2 => { F with c2 := true }
  | 3 => { F with c3 := true }
  | 4 => { F with c4 := true }
  | _ => { F with c5 := true }
def orS : List UInt8 := [111, 114]
def orL (s : List UInt8) : Nat → Nat → Nat → List (List Rel) → Except (Int × Nat) (List (List Rel) × Nat × Nat)
  | 0, a, n, xs => .ok (xs, a, n)
  | f + 1, a, n, xs =>
    if wd s a = orS then match allF s (bl s a + 2) n with
      | .error r => .error r
      | .ok (x, b, n') => orL s f b n' (xs ++ [x])
    else .ok (xs, bl s a, n)
def anyF (s : List UInt8) (c a n : Nat) : Except (Int × Nat) (List (List Rel) × Nat × Nat) :=
  if c = 5 then .ok ([], a, n) else match allF s a n with
    | .error r => .error r
    | .ok (x, b, n') => orL s (s.length + 1 - b) b n' [x]
def rulF (s : List UInt8) (a n : Nat) (F : Fnd) : Except (Int × Nat) (Rul × Nat × Nat × Fnd) :=
  match catOf (wd s a) with
  | none => .error (1, bl s a)
  | some c =>
    if F.get c then .error (7, bl s a)
    else if pre s (bl s (bl s a + (wd s a).length)) [58] then match anyF s c (bl s (bl s a + (wd s a).length) + 1) n with
      | .error r => .error r
      | .ok (xs, b, n') => .ok (⟨c, xs, (smpF s b).1⟩, (smpF s b).2, n', F.put c)
    else .error (1, bl s (bl s a + (wd s a).length))
theorem orL_le {s : List UInt8} : ∀ (f a n : Nat) (xs out : List (List Rel)) (b n' : Nat), a ≤ s.length → n ≤ 200 → orL s f a n xs = .ok (out, b, n') → b ≤ s.length ∧ a ≤ b ∧ n' ≤ 200
  | 0, a, n, xs, out, b, n', ha, hn, h => by simp [orL] at h; omega
  | f + 1, a, n, xs, out, b, n', ha, hn, h => by
    have hb := bl_le ha
    unfold orL at h
    split at h
    · rename_i hw
      have hl : bl s a + (wd s a).length ≤ s.length := tw_le _ hb.2
      rw [hw] at hl
      simp only [orS, List.length_cons, List.length_nil] at hl
      split at h; · cases h
      rename_i x c n2 hv
      have h1 := allF_le (by omega) hv
      have := orL_le f c _ _ out b n' h1.2.1 h1.2.2 h
      omega
    · simp only [Except.ok.injEq, Prod.mk.injEq] at h
      omega
theorem anyF_le {s : List UInt8} {c a n : Nat} (ha : a ≤ s.length) (hn : n ≤ 200) {xs : List (List Rel)} {b n' : Nat} (h : anyF s c a n = .ok (xs, b, n')) : a ≤ b ∧ b ≤ s.length ∧ n' ≤ 200 := by
  unfold anyF at h
  split at h
  · simp only [Except.ok.injEq, Prod.mk.injEq] at h; omega
  · split at h; · cases h
    rename_i x c n2 hv
    have h1 := allF_le ha hv
    have := orL_le _ _ _ _ _ _ _ h1.2.1 h1.2.2 h
    omega
theorem rulF_le {s : List UInt8} {a n : Nat} {F : Fnd} (ha : a ≤ s.length) (hn : n ≤ 200) {x : Rul} {b n' : Nat} {F' : Fnd} (h : rulF s a n F = .ok (x, b, n', F')) : a < b ∧ b ≤ s.length ∧ n' ≤ 200 := by
  have hb := bl_le ha
  have hl : bl s a + (wd s a).length ≤ s.length := tw_le _ hb.2
  have hb2 := bl_le hl
  unfold rulF at h
  split at h; · cases h
  split at h; · cases h
  split at h
  · rename_i hp
    have hle := pre_le hp (by simp)
    simp only [List.length_cons, List.length_nil] at hle
    split at h; · cases h
    rename_i xs c n2 hv
    have h1 := anyF_le (by omega) hn hv
    have h2 := smpF_le h1.2.1
    simp only [Except.ok.injEq, Prod.mk.injEq] at h
    omega
  · cases h
theorem rule_does (m : Int) (s : List UInt8) (a n : Nat) (F : Fnd) (ha : a ≤ s.length) (hs : s.length < 100000) (hn : n ≤ 200) (ver : Nat) :
    Does Tryz.prog (GL m) 175 [.ptr 0 ver 0 0] [some (rro ver s a n F)] fun ae O => match rulF s a n F with
      | .error r => ae = .panic (rfault r)
      | .ok (x, b, n', F') => ae = .ret (.agg (encRul x)) ∧ O = [some (rro ver s b n' F')] := by
  refine Does.bodyA tab Tryz.func175 rfl rfl ?_
  refine AC.step tab ?_
  refine gos ?_
  intro v1
  refine gos ?_
  refine AC.step tab ?_
  refine gos ?_
  refine CallW.meth 0 (word_does s a n F ha hs ver) rfl rfl rfl rfl rfl rfl ?_
  have hb := bl_le ha
  have hl : bl s a + (wd s a).length ≤ s.length := tw_le _ hb.2
  have hb2 := bl_le hl
  refine gos ?_
  refine AC.step tab ?_
  refine gos ?_
  refine AC.step tab ?_
  refine gos ?_
  refine CallW.pure (CatOf_does (GL m) (wd s a)) rfl (by cases catOf (wd s a) <;> rfl) ?_
  cases hc : catOf (wd s a) with
  | none =>
    refine gos ?_
    refine AC.step tab ?_
    refine gos ?_
    refine CallW.of0 (rfail_does _ _) rfl ?_
    rintro ae ⟨rfl, _⟩
    refine ⟨rfl, ?_⟩
    refine gos ?_
    exact ⟨by simp, by simp [rulF, hc]⟩
  | some c =>
  simp only
  refine gos ?_
  obtain ⟨hc6, hwc⟩ := catOf_lt hc
  -- is it there already?
  refine AC.cutF tab (fun e h => F.get c = false ∧ e = [.ptr 0 ver 0 0, .any, .ptr 1 v1 0 0, .str (wd s a), .any, .int .i64 c] ++ List.replicate 67 .any ∧ h = [some (rro ver s (bl s a) n F), some ⟨v1, 211, 3, [[.int .i64 0, .nils, .str []]]⟩]) ?_ ?_
  · have h6 : c = 0 ∨ c = 1 ∨ c = 2 ∨ c = 3 ∨ c = 4 ∨ c = 5 := by omega
    rcases h6 with rfl | rfl | rfl | rfl | rfl | rfl
    all_goals
      (repeat (first | refine gof ?_ | refine fun (vv : Nat) => ?_))
      refine And.intro (fun hF => ?_) (fun hF => ?_)
      · refine gos ?_
        refine CallW.of0 (rfail_does _ _) rfl ?_
        rintro ae ⟨rfl, _⟩
        refine ⟨rfl, ?_⟩
        refine gos ?_
        exact ⟨by simp, by simp [rulF, hc, Fnd.get, hF]⟩
      · refine gos ?_
        exact ⟨_, 2, fgts, hF, rfl, rfl⟩
  rintro e h ⟨hF, rfl, rfl⟩
  refine AC.cutF tab (fun e h => e = [.ptr 0 ver 0 0, .any, .ptr 1 v1 0 0, .str (wd s a), .any, .int .i64 c] ++ List.replicate 67 .any ∧ h = [some (rro ver s (bl s a) n (F.put c)), some ⟨v1, 211, 3, [[.int .i64 0, .nils, .str []]]⟩]) ?_ ?_
  · have h6 : c = 0 ∨ c = 1 ∨ c = 2 ∨ c = 3 ∨ c = 4 ∨ c = 5 := by omega
    rcases h6 with rfl | rfl | rfl | rfl | rfl | rfl
    all_goals
      (repeat (first | refine gof ?_ | refine fun (vv : Nat) => ?_))
      exact ⟨_, 2, fgts, rfl, rfl⟩
  rintro e h ⟨rfl, rfl⟩
  refine AC.step tab ?_
  refine gos ?_
  refine AC.step tab ?_
  refine gos ?_
  have w1 := want_does (G := GL m) s [58] (bl s a + (wd s a).length) n (F.put c) hl hs ver
  cases hp : pre s (bl s (bl s a + (wd s a).length)) [58] with
  | false =>
    rw [hp] at w1
    simp only at w1
    refine CallW.pan1 0 w1 rfl rfl rfl rfl rfl (fun s' hl => ?_)
    refine gos ?_
    exact ⟨by rw [hl]; simp, by simp [rulF, hc, hF, hp]⟩
  | true =>
  have hle := pre_le hp (by simp)
  simp only [List.length_cons, List.length_nil] at hle
  rw [hp] at w1
  simp only [List.length_cons, List.length_nil, Nat.zero_add] at w1
  refine CallW.meth 0 w1 rfl rfl rfl rfl rfl rfl ?_
  obtain ⟨d0, hd0⟩ : ∃ d0, d0 = bl s (bl s a + (wd s a).length) + 1 := ⟨_, rfl⟩
  have hd0l : d0 ≤ s.length := by omega
  have hspec : ∀ X, anyF s c d0 n = X → rulF s a n F = match X with
      | .error r => .error r
      | .ok (xs, b, n') => .ok (⟨c, xs, (smpF s b).1⟩, (smpF s b).2, n', F.put c) := by
    rintro X rfl
    simp only [rulF, hc, hF, hp, Bool.false_eq_true, if_false, if_true, hd0]
  rw [← hd0]
  clear w1
  refine gos ?_
  refine AC.step tab ?_
  refine gos ?_
  intro v2
  refine gos ?_
  -- its relations
  refine AC.cutF tab (fun e h => ∃ xs d n', anyF s c d0 n = .ok (xs, d, n') ∧ d ≤ s.length ∧ n' ≤ 200 ∧ e = [.ptr 0 ver 0 0, .any, .ptr 1 v1 0 0, .any, .any, .any, .any, .ptr 2 v2 0 0] ++ List.replicate 65 .any ∧
    ((xs = [] ∧ h = [some (rro ver s d n' (F.put c)), some ⟨v1, 211, 3, [[.int .i64 0, .nils, .str []]]⟩, some ⟨v2, 211, 3, [[.int .i64 c, .nils, .str []]]⟩]) ∨
      ∃ vw o3, h = [some (rro ver s d n' (F.put c)), some ⟨v1, 211, 3, [[.int .i64 0, .nils, .str []]]⟩, some ⟨v2, 211, 3, [[.int .i64 c, .sl 4 vw, .str []]]⟩, o3, some ⟨vw, 212, 1, xs.map encAll⟩])) ?_ ?_
  · refine gos ?_
    by_cases h5 : c = 5
    · refine CmpW.N ?_
      refine gos ?_
      exact ⟨_, 3, fgts, [], d0, n, by simp [anyF, h5], hd0l, hn, rfl, .inl ⟨rfl, rfl⟩⟩
    · refine CmpW.T ?_
      refine gos ?_
      have r1 := all_does m s d0 n (F.put c) hd0l hs hn ver
      cases hA : allF s d0 n with
      | error r =>
        rw [hA] at r1
        simp only at r1
        have hE := hspec (.error r) (by simp [anyF, h5, hA])
        refine DrawW.P (.take 0 (.take 2 (.fork (.cons 1 (.take 3 (.take 4 (.take 5 (.take 6 (.take 7 .done))))) (.cons 3 (.fork (.cons 1 (.take 4 (.take 5 (.take 6 (.take 7 .done)))) (.cons 4 (.take 1 (.take 5 (.take 6 (.take 7 .done)))) .nil))) .nil))))) ?_
        (repeat' (first | exact trivial | refine gon ?_ | refine CallW.pan1 0 r1 rfl rfl rfl rfl rfl (fun s' hl => ?_) | refine And.intro ?_ ?_))
        all_goals first | (rw [hl]; simp; done) | (simp only [hE]; done)
      | ok q =>
      obtain ⟨x, b, n1⟩ := q
      rw [hA] at r1
      simp only at r1
      have h1 := allF_le hd0l hA
      refine DrawW.P (.take 0 (.take 2 (.fork (.cons 1 (.take 3 (.take 4 (.take 5 (.take 6 (.take 7 .done))))) (.cons 3 (.fork (.cons 1 (.take 4 (.take 5 (.take 6 (.take 7 .done)))) (.cons 4 (.take 1 (.take 5 (.take 6 (.take 7 .done)))) .nil))) .nil))))) ?_
      (repeat' (first | exact trivial | refine gon ?_ | refine CallW.meth 0 r1 rfl rfl rfl rfl rfl rfl ?_ | refine fun (vv : Nat) => ?_ | (refine And.intro (And.intro (fun y hy => by rcases List.mem_singleton.1 hy with rfl; rfl) (fun y hy => by rcases List.mem_singleton.1 hy with rfl; rfl)) ?_; refine And.intro (And.intro rfl trivial) ?_) | refine gobnd ?_ | refine And.intro ?_ ?_))
      all_goals
        refine AC.loopC tab (fun f e h => ∃ (xs : List (List Rel)) (b' n' vw : Nat) (o3 : Option AObj), s.length < f + b' ∧ b' ≤ s.length ∧ n' ≤ 200 ∧ xs.length ≤ b' + 1 ∧ orL s (s.length + 1 - b) b n1 [x] = orL s f b' n' xs ∧
          e = [.ptr 0 ver 0 0, .any, .ptr 1 v1 0 0, .any, .any, .any, .any, .ptr 2 v2 0 0] ++ List.replicate 65 .any ∧
          h = [some (rro ver s b' n' (F.put c)), some ⟨v1, 211, 3, [[.int .i64 0, .nils, .str []]]⟩, some ⟨v2, 211, 3, [[.int .i64 c, .sl 4 vw, .str []]]⟩, o3, some ⟨vw, 212, 1, xs.map encAll⟩])
          (s.length + 1 - b) ⟨_, fgts, [x], b, n1, vv, _, by omega, h1.2.1, h1.2.2, by simp, rfl, rfl, rfl⟩ ?_
        rintro f e h ⟨xs, b', n', vw, o3, hf, hb', hn', hxl, hal, rfl, rfl⟩
        obtain ⟨f, rfl⟩ : ∃ q, f = q + 1 := ⟨f - 1, by omega⟩
        have hq1 := bl_le hb'
        have hl2 : bl s b' + (wd s b').length ≤ s.length := tw_le _ hq1.2
        refine gos ?_
        by_cases hw : wd s b' = orS
        · have hw' := hw
          unfold orS at hw'
          rw [hw'] at hl2
          simp only [List.length_cons, List.length_nil] at hl2
          refine CallW.meth 0 (next_t (bl s b' + 2) hw' rfl n' (F.put c) hb' hs ver) rfl rfl rfl rfl rfl rfl ?_
          refine gos ?_
          have r2 := all_does m s (bl s b' + 2) n' (F.put c) (by omega) hs hn' ver
          simp only [orL, hw, if_true] at hal
          cases hA2 : allF s (bl s b' + 2) n' with
          | error r =>
            rw [hA2] at r2 hal
            simp only at r2 hal
            have hE := hspec (.error r) (by simp [anyF, h5, hA, hal])
            refine DrawW.P (.take 0 (.take 2 (.fork (.cons 1 (.take 3 (.take 4 (.take 5 (.take 6 (.take 7 .done))))) (.cons 3 (.fork (.cons 1 (.take 4 (.take 5 (.take 6 (.take 7 .done)))) (.cons 4 (.take 1 (.take 5 (.take 6 (.take 7 .done)))) .nil))) .nil))))) ?_
            (repeat' (first | exact trivial | refine gon ?_ | refine CallW.pan1 0 r2 rfl rfl rfl rfl rfl (fun s' hl => ?_) | refine And.intro ?_ ?_))
            all_goals first | (rw [hl]; simp; done) | (simp only [hE]; done)
          | ok q =>
            obtain ⟨y, d2, n2⟩ := q
            rw [hA2] at r2 hal
            simp only at r2 hal
            have h2 := allF_le (by omega) hA2
            refine DrawW.P (.take 0 (.take 2 (.fork (.cons 1 (.take 3 (.take 4 (.take 5 (.take 6 (.take 7 .done))))) (.cons 3 (.fork (.cons 1 (.take 4 (.take 5 (.take 6 (.take 7 .done)))) (.cons 4 (.take 1 (.take 5 (.take 6 (.take 7 .done)))) .nil))) .nil))))) ?_
            (repeat' (first | exact trivial | refine gon ?_ | refine CallW.meth 0 r2 rfl rfl rfl rfl rfl rfl ?_ | refine fun (vv : Nat) => ?_ | (refine And.intro (And.intro (fun y hy => by rcases List.mem_singleton.1 hy with rfl; rfl) (fun y hy => by rcases List.mem_singleton.1 hy with rfl; rfl)) ?_; refine And.intro (And.intro rfl trivial) ?_) | refine gobnd ?_ | refine And.intro ?_ ?_))
            all_goals
              refine ⟨f, _, 5, by omega, fgts, xs ++ [y], d2, n2, vv, o3, by omega, h2.2.1, h2.2.2, by simp; omega, hal, rfl, ?_⟩
              rw [List.map_append]; rfl
        · simp only [orL, if_neg hw] at hal
          refine CallW.meth 0 (next_f hw n' (F.put c) hb' hs ver) rfl rfl rfl rfl rfl rfl ?_
          refine gos ?_
          exact ⟨_, 5, fgts, xs, bl s b', n', by simp [anyF, h5, hA, hal], hq1.2, hn', rfl, .inr ⟨vw, o3, rfl⟩⟩
  rintro e h ⟨xs, d, n', hA, hd, hn', rfl, ⟨rfl, rfl⟩ | ⟨vw, o3, rfl⟩⟩
  · have hE := hspec _ hA
    refine AC.go tab ?_
    refine gos ?_
    refine CallW.meth 0 (sample_does m s d n' (F.put c) hd hs ver) rfl rfl rfl rfl rfl rfl ?_
    refine gos ?_
    refine RetW.wk (r' := .agg (encRul ⟨c, [], (smpF s d).1⟩)) (s' := [some (rro ver s (smpF s d).2 n' (F.put c)), some ⟨v1, 211, 3, [[.int .i64 c, .nils, .str (smpF s d).1]]⟩, some ⟨v2, 211, 3, [[.int .i64 c, .nils, .str (smpF s d).1]]⟩]) (by simp) rfl ?_ ?_
    · exact Wk.agg (cs := [.int .i64 c, .nils, .str (smpF s d).1]) (cs' := encRul ⟨c, [], (smpF s d).1⟩) rfl (Wk.nil (k := 1) rfl)
    · simp only [hE]
      (first | exact ⟨rfl, rfl⟩ | exact ⟨trivial, rfl⟩ | exact ⟨rfl, trivial⟩ | rfl | trivial | done)
  · have hE := hspec _ hA
    refine AC.go tab ?_
    refine gos ?_
    refine CallW.meth 0 (sample_does m s d n' (F.put c) hd hs ver) rfl rfl rfl rfl rfl rfl ?_
    refine gos ?_
    refine RetW.wk (r' := .agg (encRul ⟨c, xs, (smpF s d).1⟩)) (s' := [some (rro ver s (smpF s d).2 n' (F.put c)), some ⟨v1, 211, 3, [[.int .i64 c, .sl 4 vw, .str (smpF s d).1]]⟩, some ⟨v2, 211, 3, [[.int .i64 c, .sl 4 vw, .str (smpF s d).1]]⟩, o3, none]) (by simp) rfl ?_ ?_
    · exact Wk.agg (cs := [.int .i64 c, .sl 4 vw, .str (smpF s d).1]) (cs' := encRul ⟨c, xs, (smpF s d).1⟩) rfl (Wk.row (k := 1) (i := 4) (o := ⟨vw, 212, 1, xs.map encAll⟩) rfl rfl rfl (encAlls_closed xs))
    · simp only [hE]
      (first | exact ⟨rfl, rfl⟩ | exact ⟨trivial, rfl⟩ | exact ⟨rfl, trivial⟩ | rfl | trivial | done)
end Go.Proofs.YtijdnjngfkohfaaGreatDoor
