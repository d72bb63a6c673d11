/- The reader of classes: a class. -/
import Derived.Test.YtjjppmbojcgdgaaGreatDoorJ13
import Derived.Test.YtjjppmbojcgdgaaGreatDoorJ12
import Derived.Test.YtjjppmbojcgdgaaGreatDoorJ20
import Derived.Test.YtjjppmbojcgdgaaGreatDoorJ08
import Derived.Test.YtjjppmbojcgdgaaGreatDoorJ07
set_option linter.unusedVariables false
set_option linter.unusedSimpArgs false
set_option maxRecDepth 100000
set_option maxHeartbeats 4000000

namespace Go.Proofs.YtjjppmbojcgdgaaGreatDoor
open Go Go.Abs
attribute [local irreducible] DrawW CallW RetW AC Does CmpW
variable {G : Globs}
def hexS : List UInt8 := [48, 49, 50, 51, 52, 53, 54, 55, 56, 57, 97, 98, 99, 100, 101, 102]
theorem Trim_does (s : List UInt8) (hs : s.length < 1000000) : Does Tryz.prog G 303 [.str s, .str hexS] [] fun ae _ => ae = .ret (.str (Lib.trimS s hexS)) :=
  Does.of_calls (v := .string ⟨⟨Lib.trimS s hexS⟩⟩) Tryz.func303 rfl rfl (fun C => by simp [RepF]) fun C cargs hg hr => by
    rw [rep_str2 hr]
    exact Any.strings_Trim_laid Tryz.lays160 (by kernel_rfl) ⟨⟨s⟩⟩ ⟨⟨hexS⟩⟩ C.w (by simp [str_size]; omega) (by decide) (ascii_of_all (by decide))
theorem CutPrefix_does (s t : List UInt8) : Does Tryz.prog G 302 [.str s, .str t] [] fun ae _ => ae = .ret (.tuple [.str (Lib.trimPrefix s t), .bool (t.isPrefixOf s)]) :=
  Does.of_calls (v := .tuple #[.string ⟨⟨Lib.trimPrefix s t⟩⟩, .bool (t.isPrefixOf s)]) Tryz.func302 rfl rfl (fun C => by simp [RepF, RepFL]) fun C cargs hg hr => by
    rw [rep_str2 hr]
    refine (Tryz.strings_CutPrefix ⟨⟨s⟩⟩ ⟨⟨t⟩⟩ C.w).mono ?_
    rintro e w' ⟨rfl, rfl⟩
    exact ⟨rfl, below_same _⟩
theorem dropW_nil (p : UInt8 → Bool) : ∀ {l : List UInt8}, l.dropWhile p = [] → ∀ c ∈ l, p c = true
  | [], _, c, hc => by cases hc
  | x :: l, h, c, hc => by
    by_cases hp : p x = true
    · rw [List.dropWhile_cons_of_pos hp] at h
      rcases List.mem_cons.1 hc with rfl | hc
      · exact hp
      · exact dropW_nil p h c hc
    · rw [List.dropWhile_cons_of_neg hp] at h
      cases h
theorem trimS_hex {l : List UInt8} (h : Lib.trimS l hexS = []) : ∀ c ∈ l, isHex c = true := by
  have hp : ∀ c : UInt8, hexS.contains c = true → isHex c = true := by
    intro c hc
    have : c ∈ hexS := by simpa using hc
    simp only [hexS, List.mem_cons, List.mem_nil_iff, or_false] at this
    rcases this with rfl | rfl | rfl | rfl | rfl | rfl | rfl | rfl | rfl | rfl | rfl | rfl | rfl | rfl | rfl | rfl <;> decide
  unfold Lib.trimS Lib.trimLeftS Lib.trimRightS at h
  intro c hc
  refine hp c ?_
  have hr : c ∈ l.reverse := by simpa using hc
  rw [← List.takeWhile_append_dropWhile (p := (hexS.contains ·)) (l := l.reverse), List.mem_append] at hr
  rcases hr with hr | hr
  · exact List.all_eq_true.1 List.all_takeWhile c hr
  · exact dropW_nil _ h c (by simpa using hr)
def escS : List UInt8 := [91, 93, 45, 94, 92, 32]
def uniS : List UInt8 := [92, 117, 123]
def uniF (s : List UInt8) (a : Nat) : Option (Nat × Nat) :=
  if uniS.isPrefixOf (Lib.cut (s.drop a) [125]).1 = true ∧ (Lib.cut (s.drop a) [125]).2.2 = true ∧ 1 ≤ (Lib.trimPrefix (Lib.cut (s.drop a) [125]).1 uniS).length ∧ (Lib.trimPrefix (Lib.cut (s.drop a) [125]).1 uniS).length ≤ 6
      ∧ Lib.trimS (Lib.trimPrefix (Lib.cut (s.drop a) [125]).1 uniS) hexS = [] ∧ hexV (Lib.trimPrefix (Lib.cut (s.drop a) [125]).1 uniS) ≤ 1114111 then
    some (hexV (Lib.trimPrefix (Lib.cut (s.drop a) [125]).1 uniS), a + ((Lib.trimPrefix (Lib.cut (s.drop a) [125]).1 uniS).length + 4))
  else none
def escF (s : List UInt8) (a : Nat) : Option (Nat × Nat) := match (s.drop a)[1]? with
  | some c => if 0 ≤ Lib.indexByte escS c then some (c.toNat, a + 2) else uniF s a
  | none => uniF s a
theorem uniF_le {s : List UInt8} {a : Nat} (ha : a ≤ s.length) {v b : Nat} (h : uniF s a = some (v, b)) : a < b ∧ b ≤ s.length ∧ v ≤ 1114111 := by
  unfold uniF at h
  split at h
  · rename_i hc
    obtain ⟨h1, h2, h3, h4, h5, h6⟩ := hc
    simp only [Option.some.injEq, Prod.mk.injEq] at h
    obtain ⟨rfl, rfl⟩ := h
    refine ⟨by omega, ?_, h6⟩
    have hcut : 0 ≤ Lib.index (s.drop a) [125] := by
      unfold Lib.cut at h2
      split at h2
      · assumption
      · cases h2
    have hroom := Lib.index_room _ _ hcut
    have hlen : (Lib.cut (s.drop a) [125]).1.length ≤ (Lib.index (s.drop a) [125]).toNat := by
      unfold Lib.cut; rw [if_pos hcut]; simp; omega
    have hpl : (Lib.trimPrefix (Lib.cut (s.drop a) [125]).1 uniS).length + 3 ≤ (Lib.cut (s.drop a) [125]).1.length := by
      unfold Lib.trimPrefix Lib.hasPrefix
      rw [if_pos h1]
      have := (List.isPrefixOf_iff_prefix.1 h1).length_le
      simp only [uniS, List.length_cons, List.length_nil, List.length_drop] at this ⊢
      omega
    simp only [List.length_drop, List.length_cons, List.length_nil] at hroom
    omega
  · cases h
theorem escF_le {s : List UInt8} {a : Nat} (ha : a ≤ s.length) {v b : Nat} (h : escF s a = some (v, b)) : a < b ∧ b ≤ s.length ∧ v ≤ 1114111 := by
  unfold escF at h
  split at h
  · rename_i c hc
    split at h
    · simp only [Option.some.injEq, Prod.mk.injEq] at h
      have := (List.getElem?_eq_some_iff.1 hc).1
      rw [List.length_drop] at this
      have hcl := c.toNat_lt
      omega
    · exact uniF_le ha h
  · exact uniF_le ha h
theorem escape_does (m : Int) (s : List UInt8) (a : Nat) (bad : Int) (ha : a ≤ s.length) (hs : s.length < 100000) (ver : Nat) :
    Does Tryz.prog (GL m) 279 [.ptr 0 ver 0 0] [some (cro ver s a bad)] fun ae O => match escF s a with
      | some (v, b) => ae = .ret (.int .i32 v) ∧ O = [some (cro ver s b bad)]
      | none => ae = .ret (.int .i32 0) ∧ O = [some (cro ver s a (bd a bad))] := by
  refine Does.bodyA tab Tryz.func279 rfl rfl ?_
  refine AC.step tab ?_
  refine gos ?_
  refine AC.step tab ?_
  refine DrawW.L ?_
  refine gos ?_
  refine And.intro (And.intro (by omega) (by omega)) ?_
  refine gos ?_
  refine AC.cutF tab (fun e h => escF s a = uniF s a ∧ e = [.ptr 0 ver 0 0, .any, .any, .str (s.drop a)] ++ List.replicate 87 .any ∧ h = [some (cro ver s a bad)]) ?_ ?_
  · refine gos ?_
    by_cases h1 : 1 < (s.drop a).length
    · obtain ⟨c, hc⟩ : ∃ c, (s.drop a)[1]? = some c := ⟨_, List.getElem?_eq_getElem h1⟩
      have ha2 : a + 2 ≤ s.length := by rw [List.length_drop] at h1; omega
      have hcl := c.toNat_lt
      refine CmpW.t (by rw [List.length_drop] at h1; simp; omega) ?_
      refine gos ?_
      refine And.intro (by simp) ⟨c, hc, ?_⟩
      refine gos ?_
      refine CallW.pure (IndexByte_does _ escS _) rfl rfl ?_
      have e1 : (c.toNat : Int).toNat.toUInt8 = c := by rw [Int.toNat_natCast]; simp
      rw [e1]
      refine gos ?_
      by_cases h2 : 0 ≤ Lib.indexByte escS c
      · refine CmpW.t (by simpa using h2) ?_
        refine gos ?_
        refine And.intro (by simp) ⟨c, hc, ?_⟩
        refine gos ?_
        refine RetW.plain (by simp) ?_
        simp only [escF, hc, if_pos h2]
        refine ⟨?_, rfl⟩
        rw [wrap_i32 (by omega) (by omega)]
      · refine CmpW.f (by simpa using h2) ?_
        refine gos ?_
        exact ⟨_, 1, fgts, by simp only [escF, hc, if_neg h2], rfl, rfl⟩
    · refine CmpW.f (by rw [List.length_drop] at h1; simp; omega) ?_
      refine gos ?_
      exact ⟨_, 1, fgts, by simp only [escF, List.getElem?_eq_none (show (s.drop a).length ≤ 1 by omega)], rfl, rfl⟩
  rintro e h ⟨hE, rfl, rfl⟩
  rw [hE]
  obtain ⟨q, hq⟩ : ∃ q, q = Lib.cut (s.drop a) [125] := ⟨_, rfl⟩
  obtain ⟨d, hd⟩ : ∃ d, d = Lib.trimPrefix q.1 uniS := ⟨_, rfl⟩
  have hU : uniF s a = if uniS.isPrefixOf q.1 = true ∧ q.2.2 = true ∧ 1 ≤ d.length ∧ d.length ≤ 6 ∧ Lib.trimS d hexS = [] ∧ hexV d ≤ 1114111 then some (hexV d, a + (d.length + 4)) else none := by rw [hd, hq]; rfl
  have hql : q.1.length ≤ s.length := by
    have := cut_le (s.drop a) [125]
    rw [← hq, List.length_drop] at this; omega
  have hdl : d.length ≤ s.length := by
    rw [hd]; unfold Lib.trimPrefix; split
    · rw [List.length_drop]; omega
    · omega
  refine AC.step tab ?_
  refine gos ?_
  refine CallW.pure (Cut_does m (s.drop a) [125] (by simp; omega)) rfl rfl ?_
  rw [← hq]
  refine gos ?_
  refine AC.cutF tab (fun e h => uniF s a = none ∧ e = [.ptr 0 ver 0 0] ++ List.replicate 90 .any ∧ h = [some (cro ver s a bad)]) ?_ ?_
  · refine gos ?_
    refine CallW.pure (CutPrefix_does q.1 uniS) rfl rfl ?_
    rw [← hd]
    cases h1 : uniS.isPrefixOf q.1 with
    | false =>
      refine gos ?_
      exact ⟨_, 1, fgts, by rw [hU, if_neg (by simp [h1])], rfl, rfl⟩
    | true =>
    refine gos ?_
    cases h2 : q.2.2 with
    | false =>
      refine gos ?_
      exact ⟨_, 1, fgts, by rw [hU, if_neg (by simp [h2])], rfl, rfl⟩
    | true =>
    refine gos ?_
    by_cases h3 : 1 ≤ d.length
    case neg =>
      refine CmpW.N ?_
      refine gos ?_
      exact ⟨_, 1, fgts, by rw [hU, if_neg (fun h => h3 h.2.2.1)], rfl, rfl⟩
    refine CmpW.T ?_
    refine gos ?_
    by_cases h4 : d.length ≤ 6
    case neg =>
      refine CmpW.N ?_
      refine gos ?_
      exact ⟨_, 1, fgts, by rw [hU, if_neg (fun h => h4 h.2.2.2.1)], rfl, rfl⟩
    refine CmpW.T ?_
    refine gos ?_
    refine CallW.pure (Trim_does d (by omega)) rfl rfl ?_
    refine gos ?_
    by_cases h5 : Lib.trimS d hexS = []
    case neg =>
      refine CmpW.f (by simpa using h5) ?_
      refine gos ?_
      exact ⟨_, 1, fgts, by rw [hU, if_neg (fun h => h5 h.2.2.2.2.1)], rfl, rfl⟩
    refine CmpW.t (by simpa using h5) ?_
    refine gos ?_
    have hx := trimS_hex h5
    have hv : hexV d < 16777216 := by
      have k1 := hexV_lt d.length d rfl hx
      have k2 : 16 ^ d.length ≤ 16 ^ 6 := Nat.pow_le_pow_right (by omega) h4
      omega
    refine CallW.pure (ParseInt_does d (by intro e; rw [e] at h3; simp at h3) h4 hx) rfl rfl ?_
    refine gos ?_
    have ew : IntKind.i32.wrap (hexV d : Int) = (hexV d : Int) := wrap_i32 (by omega) (by omega)
    rw [ew]
    by_cases h6 : hexV d ≤ 1114111
    · have hU2 : uniF s a = some (hexV d, a + (d.length + 4)) := by rw [hU, if_pos ⟨h1, h2, h3, h4, h5, h6⟩]
      have hle := uniF_le ha hU2
      refine CmpW.T ?_
      refine gos ?_
      rw [ew]
      refine RetW.plain (by simp) ?_
      rw [hU2]
      exact ⟨rfl, rfl⟩
    · refine CmpW.N ?_
      refine gos ?_
      exact ⟨_, 1, fgts, by rw [hU, if_neg (fun h => h6 h.2.2.2.2.2)], rfl, rfl⟩
  rintro e h ⟨hN, rfl, rfl⟩
  refine AC.go tab ?_
  refine gos ?_
  refine CallW.meth 0 (cfail_does s a bad ver) rfl rfl rfl rfl rfl rfl ?_
  refine gos ?_
  refine RetW.plain (by simp) ?_
  rw [hN]
  exact ⟨rfl, rfl⟩
def conF (s : List UInt8) (a : Nat) : Option (Nat × Nat) :=
  if pk s a = 92 then escF s (bl s a)
  else if pk s a = 91 ∨ pk s a = 93 ∨ pk s a = 45 ∨ pk s a = 94 ∨ bl s a = s.length then none
  else if (dec (s.drop (bl s a))).1 = 65533 ∧ (dec (s.drop (bl s a))).2 < 2 then none
  else some ((dec (s.drop (bl s a))).1, bl s a + (dec (s.drop (bl s a))).2)
theorem cone_does (m : Int) (s : List UInt8) (a : Nat) (bad : Int) (ha : a ≤ s.length) (hs : s.length < 100000) (ver : Nat) :
    Does Tryz.prog (GL m) 251 [.ptr 0 ver 0 0] [some (cro ver s a bad)] fun ae O => match conF s a with
      | some (v, b) => ae = .ret (.int .i32 v) ∧ O = [some (cro ver s b bad)]
      | none => ae = .ret (.int .i32 0) ∧ O = [some (cro ver s (bl s a) (bd (bl s a) bad))] := by
  have hb := bl_le ha
  refine Does.bodyA tab Tryz.func251 rfl rfl ?_
  refine AC.step tab ?_
  refine gos ?_
  refine AC.cutF tab (fun e h => ¬ pk s a = 92 ∧ ¬ (pk s a = 91 ∨ pk s a = 93 ∨ pk s a = 45 ∨ pk s a = 94 ∨ bl s a = s.length) ∧ e = [.ptr 0 ver 0 0] ++ List.replicate 63 .any ∧ h = [some (cro ver s (bl s a) bad)]) ?_ ?_
  · refine gos ?_
    refine CallW.meth 0 (cpeek_does s a bad ha hs ver) rfl rfl rfl rfl rfl rfl ?_
    refine gos ?_
    by_cases h1 : pk s a = 92
    · refine CmpW.t (by simp; omega) ?_
      have hE := escape_does m s (bl s a) bad hb.2 hs ver
      refine gos ?_
      cases hR : escF s (bl s a) with
      | none =>
        rw [hR] at hE
        simp only at hE
        refine CallW.meth 0 hE rfl rfl rfl rfl rfl rfl ?_
        refine gos ?_
        refine RetW.plain (by simp) ?_
        simp only [conF, if_pos h1, hR]
        (first | exact ⟨rfl, rfl⟩ | exact ⟨trivial, rfl⟩ | exact ⟨rfl, trivial⟩ | rfl | trivial | done)
      | some q =>
        obtain ⟨v, b⟩ := q
        rw [hR] at hE
        simp only at hE
        refine CallW.meth 0 hE rfl rfl rfl rfl rfl rfl ?_
        refine gos ?_
        refine RetW.plain (by simp) ?_
        simp only [conF, if_pos h1, hR]
        (first | exact ⟨rfl, rfl⟩ | exact ⟨trivial, rfl⟩ | exact ⟨rfl, trivial⟩ | rfl | trivial | done)
    refine CmpW.f (by simp; omega) ?_
    refine gos ?_
    by_cases h2 : pk s a = 91
    · refine CmpW.t (by simp; omega) ?_
      refine gos ?_
      refine CallW.meth 0 (cfail_does s _ bad ver) rfl rfl rfl rfl rfl rfl ?_
      refine gos ?_
      refine RetW.plain (by simp) ?_
      simp only [conF, if_neg h1, if_pos (show pk s a = 91 ∨ pk s a = 93 ∨ pk s a = 45 ∨ pk s a = 94 ∨ bl s a = s.length by omega)]
      (first | exact ⟨rfl, rfl⟩ | exact ⟨trivial, rfl⟩ | exact ⟨rfl, trivial⟩ | rfl | trivial | done)
    refine CmpW.f (by simp; omega) ?_
    refine gos ?_
    by_cases h3 : pk s a = 93
    · refine CmpW.t (by simp; omega) ?_
      refine gos ?_
      refine CallW.meth 0 (cfail_does s _ bad ver) rfl rfl rfl rfl rfl rfl ?_
      refine gos ?_
      refine RetW.plain (by simp) ?_
      simp only [conF, if_neg h1, if_pos (show pk s a = 91 ∨ pk s a = 93 ∨ pk s a = 45 ∨ pk s a = 94 ∨ bl s a = s.length by omega)]
      (first | exact ⟨rfl, rfl⟩ | exact ⟨trivial, rfl⟩ | exact ⟨rfl, trivial⟩ | rfl | trivial | done)
    refine CmpW.f (by simp; omega) ?_
    refine gos ?_
    by_cases h4 : pk s a = 45
    · refine CmpW.t (by simp; omega) ?_
      refine gos ?_
      refine CallW.meth 0 (cfail_does s _ bad ver) rfl rfl rfl rfl rfl rfl ?_
      refine gos ?_
      refine RetW.plain (by simp) ?_
      simp only [conF, if_neg h1, if_pos (show pk s a = 91 ∨ pk s a = 93 ∨ pk s a = 45 ∨ pk s a = 94 ∨ bl s a = s.length by omega)]
      (first | exact ⟨rfl, rfl⟩ | exact ⟨trivial, rfl⟩ | exact ⟨rfl, trivial⟩ | rfl | trivial | done)
    refine CmpW.f (by simp; omega) ?_
    refine gos ?_
    by_cases h5 : pk s a = 94
    · refine CmpW.t (by simp; omega) ?_
      refine gos ?_
      refine CallW.meth 0 (cfail_does s _ bad ver) rfl rfl rfl rfl rfl rfl ?_
      refine gos ?_
      refine RetW.plain (by simp) ?_
      simp only [conF, if_neg h1, if_pos (show pk s a = 91 ∨ pk s a = 93 ∨ pk s a = 45 ∨ pk s a = 94 ∨ bl s a = s.length by omega)]
      (first | exact ⟨rfl, rfl⟩ | exact ⟨trivial, rfl⟩ | exact ⟨rfl, trivial⟩ | rfl | trivial | done)
    refine CmpW.f (by simp; omega) ?_
    refine gos ?_
    refine DrawW.L ?_
    refine gos ?_
    by_cases h6 : bl s a = s.length
    · refine CmpW.t (by simp; omega) ?_
      refine gos ?_
      refine CallW.meth 0 (cfail_does s _ bad ver) rfl rfl rfl rfl rfl rfl ?_
      refine gos ?_
      refine RetW.plain (by simp) ?_
      simp only [conF, if_neg h1, if_pos (show pk s a = 91 ∨ pk s a = 93 ∨ pk s a = 45 ∨ pk s a = 94 ∨ bl s a = s.length by omega)]
      (first | exact ⟨rfl, rfl⟩ | exact ⟨trivial, rfl⟩ | exact ⟨rfl, trivial⟩ | rfl | trivial | done)
    refine CmpW.f (by simp; omega) ?_
    refine gos ?_
    exact ⟨_, 1, fgts, h1, by omega, rfl, rfl⟩
  rintro e h ⟨h1, h2, rfl, rfl⟩
  have hC : conF s a = if (dec (s.drop (bl s a))).1 = 65533 ∧ (dec (s.drop (bl s a))).2 < 2 then none else some ((dec (s.drop (bl s a))).1, bl s a + (dec (s.drop (bl s a))).2) := by
    simp only [conF, if_neg h1, if_neg h2]
  have hdl := dec_le (s.drop (bl s a))
  rw [List.length_drop] at hdl
  refine AC.step tab ?_
  refine DrawW.L ?_
  refine gos ?_
  refine And.intro (And.intro (by omega) (by omega)) ?_
  refine CallW.pure (Decode_does m _) rfl rfl ?_
  rw [Int.toNat_natCast]
  generalize dec (s.drop (bl s a)) = q at hC hdl
  obtain ⟨p, w⟩ := q
  simp only at hC hdl
  refine gos ?_
  refine AC.step tab ?_
  refine gos ?_
  by_cases h3 : p = 65533
  · refine CmpW.t (by simp; omega) ?_
    refine gos ?_
    by_cases h4 : w < 2
    · refine CmpW.t (by simp; omega) ?_
      refine gos ?_
      refine CallW.meth 0 (cfail_does s _ bad ver) rfl rfl rfl rfl rfl rfl ?_
      refine gos ?_
      refine RetW.plain (by simp) ?_
      rw [hC, if_pos ⟨h3, h4⟩]
      (first | exact ⟨rfl, rfl⟩ | exact ⟨trivial, rfl⟩ | exact ⟨rfl, trivial⟩ | rfl | trivial | done)
    · refine CmpW.f (by simp; omega) ?_
      rw [if_neg (fun h => h4 h.2)] at hC
      refine gos ?_
      refine AC.go tab ?_
      refine gos ?_
      refine RetW.plain (by simp) ?_
      rw [hC]
      (first | exact ⟨rfl, rfl⟩ | exact ⟨trivial, rfl⟩ | exact ⟨rfl, trivial⟩ | rfl | trivial | done)
  · refine CmpW.f (by simp; omega) ?_
    rw [if_neg (fun h => h3 h.1)] at hC
    refine gos ?_
    refine AC.go tab ?_
    refine gos ?_
    refine RetW.plain (by simp) ?_
    rw [hC]
    (first | exact ⟨rfl, rfl⟩ | exact ⟨trivial, rfl⟩ | exact ⟨rfl, trivial⟩ | rfl | trivial | done)
end Go.Proofs.YtjjppmbojcgdgaaGreatDoor

namespace Go.Proofs.YtjjppmbojcgdgaaGreatDoor
open Go Go.Abs
attribute [local irreducible] DrawW CallW RetW AC Does CmpW
theorem dec_max (s : List UInt8) : (dec s).1 ≤ 1114111 := by
  unfold dec Lib.decodeGo
  split
  · decide
  · exact Lib.rune_le _ _
theorem conF_le {s : List UInt8} {a : Nat} (ha : a ≤ s.length) {v b : Nat} (h : conF s a = some (v, b)) : bl s a < b ∧ b ≤ s.length ∧ v ≤ 1114111 := by
  have hb := bl_le ha
  unfold conF at h
  split at h
  · exact escF_le hb.2 h
  split at h
  · cases h
  rename_i h2
  split at h
  · cases h
  simp only [Option.some.injEq, Prod.mk.injEq] at h
  obtain ⟨rfl, rfl⟩ := h
  have h3 := dec_le (s.drop (bl s a))
  have h4 := dec_pos (s.drop (bl s a)) (by intro e; have := congrArg List.length e; simp at this; omega)
  rw [List.length_drop] at h3
  exact ⟨by omega, by omega, dec_max _⟩
def itemF (s : List UInt8) (a : Nat) : Except Nat (Rg × Nat) := match conF s a with
  | none => .error (bl s a)
  | some (lo, b) => if nx s b 45 then (match conF s (bl s (nxE s b 45)) with
      | none => .error (bl s (bl s (nxE s b 45)))
      | some (hi, e) => if hi < lo then .error (bl s (nxE s b 45)) else .ok (mkR lo hi, e))
    else .ok (mkR lo lo, nxE s b 45)
def clsL (s : List UInt8) : Nat → Nat → List Rg → Except Nat (List Rg × Nat)
  | 0, a, _ => .error a
  | f + 1, a, acc => if nx s a 93 then .ok (acc, nxE s a 93) else match itemF s (nxE s a 93) with
    | .error p => .error p
    | .ok (x, e) => clsL s f e (acc ++ [x])
def clsE (s : List UInt8) (neg : Bool) : Except Nat (List Rg × Nat) → Except Nat (List Rg)
  | .error p => .error p
  | .ok (l, e) => if bl s e = s.length then .ok (if neg then notR (madeR l) else madeR l) else .error (bl s e)
def clsF (s : List UInt8) : Except Nat (List Rg) :=
  if nx s 0 91 = false then .error (bl s 0)
  else clsE s (nx s (nxE s 0 91) 94) (clsL s (s.length + 1) (nxE s (nxE s 0 91) 94) [])
def clsI (s : List UInt8) (f a : Nat) (bad : Int) (acc : List Rg) (T : Except Nat (List Rg × Nat)) : Prop :=
  (bad = -1 ∧ s.length + 1 < f + a ∧ acc.length ≤ a ∧ T = clsL s (f - 1) a acc) ∨ (∃ p : Nat, bad = p ∧ acc.length ≤ s.length + 1 ∧ T = .error p)
theorem bd_neg (a : Nat) : bd a (-1) = (a : Int) := rfl
theorem pk_end {s : List UInt8} {a : Nat} (h : bl s a = s.length) : pk s a = 0 := by
  unfold pk; rw [h, List.getElem?_eq_none (Nat.le_refl _)]
theorem rclass_does (m : Int) (s : List UInt8) (hs : s.length < 60000) (ver : Nat) :
    Does Tryz.prog (GL m) 197 [.ptr 0 ver 0 0] [some (cro ver s 0 (-1))] fun ae O => ∃ c a', ae = .ret (.fsl (rgEs c)) ∧ c.length ≤ s.length + 2 ∧ match clsF s with
      | .error p => O = [some (cro ver s a' p)]
      | .ok c' => c = c' ∧ O = [some (cro ver s a' (-1))] := by
  have ha0 : 0 ≤ s.length := Nat.zero_le _
  refine Does.bodyA tab Tryz.func197 rfl rfl ?_
  refine AC.step tab ?_
  refine gos ?_
  refine AC.step tab ?_
  refine gos ?_
  refine CallW.meth 0 (ctake_does s 0 (-1) 91 (by decide) ha0 (by omega) ver) rfl rfl rfl rfl rfl rfl ?_
  cases h91 : nx s 0 91 with
  | false =>
    have hF : clsF s = .error (bl s 0) := by unfold clsF; rw [if_pos h91]
    have hx : nxE s 0 91 = bl s 0 := by simp [nxE, h91]
    rw [hx]
    refine gos ?_
    refine CallW.meth 0 (cfail_does s _ (-1) ver) rfl rfl rfl rfl rfl rfl ?_
    refine gos ?_
    refine RetW.wk (r' := .fsl (rgEs [])) (by simp) ?_ (Wk.nil (k := 0) rfl) ?_
    · rfl
    rw [hF]
    exact ⟨[], _, rfl, by simp, by rw [bd_neg]; rfl⟩
  | true =>
  have hn1 := nxE_le (s := s) 91 ha0
  obtain ⟨a1, ha1⟩ : ∃ a1, a1 = nxE s 0 91 := ⟨_, rfl⟩
  rw [← ha1] at hn1 ⊢
  refine gos ?_
  refine AC.step tab ?_
  refine gos ?_
  refine CallW.meth 0 (ctake_does s a1 (-1) 94 (by decide) hn1.2 (by omega) ver) rfl rfl rfl rfl rfl rfl ?_
  have hn2 := nxE_le (s := s) 94 hn1.2
  obtain ⟨a2, ha2⟩ : ∃ a2, a2 = nxE s a1 94 := ⟨_, rfl⟩
  obtain ⟨neg, hneg⟩ : ∃ neg, neg = nx s a1 94 := ⟨_, rfl⟩
  rw [← ha2] at hn2 ⊢
  rw [← hneg]
  obtain ⟨T, hT⟩ : ∃ T, T = clsL s (s.length + 1) a2 [] := ⟨_, rfl⟩
  have hF : clsF s = clsE s neg T := by
    unfold clsF; rw [if_neg (by simp [h91]), ← ha1, ← ha2, ← hT, ← hneg]
  refine gos ?_
  refine AC.step tab ?_
  refine gos ?_
  refine AC.own 4 121 2 rfl (by omega) fun v0 => ?_
  refine AC.cutF tab (fun e h => ∃ (va a : Nat) (bad : Int) (l : List Rg), a ≤ s.length ∧ l.length ≤ s.length + 1 ∧ ((bad = -1 ∧ T = .ok (l, a)) ∨ (∃ p : Nat, bad = p ∧ T = .error p)) ∧
      e = [.ptr 0 ver 0 0, .any, .nils, .bool neg, .sl 1 va] ++ List.replicate 99 .any ∧ h = [some (cro ver s a bad), some ⟨va, 121, 2, rgEs l⟩]) ?_ ?_
  · refine gos ?_
    refine AC.loopC tab (fun f e h => ∃ (va a : Nat) (bad : Int) (acc : List Rg), 0 < f ∧ a ≤ s.length ∧ clsI s f a bad acc T ∧
        e = [.ptr 0 ver 0 0, .any, .nils, .bool neg, .sl 1 va] ++ List.replicate 99 .any ∧ h = [some (cro ver s a bad), some ⟨va, 121, 2, rgEs acc⟩])
      (s.length + 2) ⟨_, fgts, v0, a2, -1, [], by omega, hn2.2, .inl ⟨rfl, by omega, by simp, hT⟩, rfl, rfl⟩ ?_
    rintro f e h ⟨va, a, bad, acc, hf, ha, hI, rfl, rfl⟩
    rcases hI with ⟨rfl, hfa, hacc, hT⟩ | ⟨p, rfl, hacc, hT⟩
    case inr =>
      refine gos ?_
      exact ⟨_, 2, fgts, va, a, p, acc, ha, hacc, .inr ⟨p, rfl, hT⟩, rfl, rfl⟩
    obtain ⟨f, rfl⟩ : ∃ q, f = q + 2 := ⟨f - 2, by omega⟩
    rw [show f + 2 - 1 = f + 1 from rfl] at hT
    refine gos ?_
    refine CallW.meth 0 (ctake_does s a (-1) 93 (by decide) ha (by omega) ver) rfl rfl rfl rfl rfl rfl ?_
    have hn3 := nxE_le (s := s) 93 ha
    simp only [clsL] at hT
    cases h93 : nx s a 93 with
    | true =>
      rw [if_pos h93] at hT
      refine gos ?_
      exact ⟨_, 2, fgts, va, _, -1, acc, hn3.2, by omega, .inl ⟨rfl, hT⟩, rfl, rfl⟩
    | false =>
    rw [if_neg (by simp [h93])] at hT
    obtain ⟨b, hb⟩ : ∃ b, b = nxE s a 93 := ⟨_, rfl⟩
    rw [← hb] at hn3 hT ⊢
    have hbb := bl_le hn3.2
    have hC := cone_does m s b (-1) hn3.2 (by omega) ver
    unfold itemF at hT
    refine gos ?_
    cases hR : conF s b with
    | none =>
      rw [hR] at hC hT
      simp only at hC hT
      rw [bd_neg] at hC
      refine CallW.meth 0 hC rfl rfl rfl rfl rfl rfl ?_
      (repeat (first | refine gof ?_ | refine fun (vv : Nat) => ?_))
      exact ⟨f + 1, _, 2, by omega, fgts, _, _, _, acc ++ [mkR 0 0], by omega, hbb.2, .inr ⟨_, rfl, by simp; omega, hT⟩, rfl, by simp [rgEs, encG_mk (show 0 < 1114112 by omega) (show 0 < 1114112 by omega)]⟩
    | some q =>
    obtain ⟨lo, c⟩ := q
    have hcl := conF_le hn3.2 hR
    rw [hR] at hC hT
    simp only at hC hT
    refine CallW.meth 0 hC rfl rfl rfl rfl rfl rfl ?_
    refine gos ?_
    refine CallW.meth 0 (ctake_does s c (-1) 45 (by decide) hcl.2.1 (by omega) ver) rfl rfl rfl rfl rfl rfl ?_
    have hn4 := nxE_le (s := s) 45 hcl.2.1
    obtain ⟨d, hd⟩ : ∃ d, d = nxE s c 45 := ⟨_, rfl⟩
    rw [← hd] at hn4 hT ⊢
    cases h45 : nx s c 45 with
    | false =>
      rw [if_neg (by simp [h45])] at hT
      (repeat (first | refine gof ?_ | refine fun (vv : Nat) => ?_))
      exact ⟨f + 1, _, 2, by omega, fgts, _, _, _, acc ++ [mkR lo lo], by omega, hn4.2, .inl ⟨rfl, by omega, by simp; omega, hT⟩, rfl, by simp [rgEs, encG_mk (show lo < 1114112 by omega) (show lo < 1114112 by omega)]⟩
    | true =>
    rw [if_pos h45] at hT
    refine gos ?_
    refine CallW.meth 0 (cpeek_does s d (-1) hn4.2 (by omega) ver) rfl rfl rfl rfl rfl rfl ?_
    have hbd := bl_le hn4.2
    obtain ⟨g, hg⟩ : ∃ g, g = bl s d := ⟨_, rfl⟩
    rw [← hg] at hbd hT ⊢
    have hC2 := cone_does m s g (-1) hbd.2 (by omega) ver
    refine gos ?_
    cases hR2 : conF s g with
    | none =>
      rw [hR2] at hC2 hT
      simp only at hC2 hT
      rw [bd_neg] at hC2
      have hbg := bl_le hbd.2
      refine CallW.meth 0 hC2 rfl rfl rfl rfl rfl rfl ?_
      (repeat (first | refine gof ?_ | refine fun (vv : Nat) => ?_))
      exact ⟨f + 1, _, 2, by omega, fgts, _, _, _, acc ++ [mkR lo 0], by omega, hbg.2, .inr ⟨_, rfl, by simp; omega, hT⟩, rfl, by simp [rgEs, encG_mk (show lo < 1114112 by omega) (show 0 < 1114112 by omega)]⟩
    | some q =>
    obtain ⟨hi, k⟩ := q
    have hcl2 := conF_le hbd.2 hR2
    have hbg := bl_le hbd.2
    rw [hR2] at hC2 hT
    simp only at hC2 hT
    refine CallW.meth 0 hC2 rfl rfl rfl rfl rfl rfl ?_
    refine gos ?_
    by_cases hlt : hi < lo
    · rw [if_pos hlt] at hT
      refine CmpW.T ?_
      refine gos ?_
      refine CallW.meth 0 (cfail_does s g (-1) ver) rfl rfl rfl rfl rfl rfl ?_
      rw [bd_neg]
      (repeat (first | refine gof ?_ | refine fun (vv : Nat) => ?_))
      exact ⟨f + 1, _, 2, by omega, fgts, _, _, _, acc ++ [mkR lo hi], by omega, hbd.2, .inr ⟨_, rfl, by simp; omega, hT⟩, rfl, by simp [rgEs, encG_mk (show lo < 1114112 by omega) (show hi < 1114112 by omega)]⟩
    · rw [if_neg hlt] at hT
      refine CmpW.N ?_
      (repeat (first | refine gof ?_ | refine fun (vv : Nat) => ?_))
      exact ⟨f + 1, _, 2, by omega, fgts, _, _, _, acc ++ [mkR lo hi], by omega, hcl2.2.1, .inl ⟨rfl, by omega, by simp; omega, hT⟩, rfl, by simp [rgEs, encG_mk (show lo < 1114112 by omega) (show hi < 1114112 by omega)]⟩
  rintro e h ⟨va, a, bad, l, ha, hl, hT2, rfl, rfl⟩
  have hba := bl_le ha
  obtain ⟨bad2, a3, ha3, hcut⟩ : ∃ (bad2 : Int) (a3 : Nat), a3 ≤ s.length ∧ ((bad2 = -1 ∧ bad = -1 ∧ a3 = bl s a ∧ bl s a = s.length ∧ T = .ok (l, a)) ∨ (∃ p : Nat, bad2 = p ∧ clsF s = .error p ∧ ((bad = p ∧ a3 = a) ∨ (bad = -1 ∧ a3 = bl s a ∧ p = bl s a ∧ ¬ bl s a = s.length)))) := by
    rcases hT2 with ⟨rfl, hT2⟩ | ⟨p, rfl, hT2⟩
    · by_cases he : bl s a = s.length
      · exact ⟨-1, bl s a, hba.2, .inl ⟨rfl, rfl, rfl, he, hT2⟩⟩
      · exact ⟨(bl s a : Nat), bl s a, hba.2, .inr ⟨_, rfl, by rw [hF, hT2]; simp only [clsE, if_neg he], .inr ⟨rfl, rfl, rfl, he⟩⟩⟩
    · exact ⟨p, a, ha, .inr ⟨p, rfl, by rw [hF, hT2]; rfl, .inl ⟨rfl, rfl⟩⟩⟩
  refine AC.cutF tab (fun e h => e = [.ptr 0 ver 0 0, .any, .nils, .bool neg, .sl 1 va] ++ List.replicate 99 .any ∧ h = [some (cro ver s a3 bad2), some ⟨va, 121, 2, rgEs l⟩]) ?_ ?_
  · rcases hcut with ⟨rfl, rfl, rfl, he, _⟩ | ⟨p, rfl, _, ⟨rfl, rfl⟩ | ⟨rfl, rfl, rfl, he⟩⟩
    · refine gos ?_
      refine DrawW.L ?_
      (repeat (first | refine gof ?_ | refine fun (vv : Nat) => ?_))
      refine CallW.meth 0 (cpeek_does s a (-1) ha (by omega) ver) rfl rfl rfl rfl rfl rfl ?_
      rw [pk_end he]
      (repeat (first | refine gof ?_ | refine fun (vv : Nat) => ?_))
      rw [he]
      refine CmpW.f (by simp) ?_
      (repeat (first | refine gof ?_ | refine fun (vv : Nat) => ?_))
      exact ⟨_, 2, fgts, rfl, rfl⟩
    · refine gos ?_
      refine DrawW.L ?_
      (repeat (first | refine gof ?_ | refine fun (vv : Nat) => ?_))
      exact ⟨_, 2, fgts, rfl, rfl⟩
    · refine gos ?_
      refine DrawW.L ?_
      (repeat (first | refine gof ?_ | refine fun (vv : Nat) => ?_))
      refine CallW.meth 0 (cpeek_does s a (-1) ha (by omega) ver) rfl rfl rfl rfl rfl rfl ?_
      (repeat (first | refine gof ?_ | refine fun (vv : Nat) => ?_))
      by_cases h0 : pk s a = 0
      · refine CmpW.f (by simp [h0]) ?_
        (repeat (first | refine gof ?_ | refine fun (vv : Nat) => ?_))
        refine CmpW.t (by simp; omega) ?_
        (repeat (first | refine gof ?_ | refine fun (vv : Nat) => ?_))
        refine CallW.meth 0 (cfail_does s _ (-1) ver) rfl rfl rfl rfl rfl rfl ?_
        rw [bd_neg]
        (repeat (first | refine gof ?_ | refine fun (vv : Nat) => ?_))
        exact ⟨_, 2, fgts, rfl, rfl⟩
      · refine CmpW.t (by simp [h0]) ?_
        (repeat (first | refine gof ?_ | refine fun (vv : Nat) => ?_))
        refine CallW.meth 0 (cfail_does s _ (-1) ver) rfl rfl rfl rfl rfl rfl ?_
        rw [bd_neg]
        (repeat (first | refine gof ?_ | refine fun (vv : Nat) => ?_))
        exact ⟨_, 2, fgts, rfl, rfl⟩
  rintro e h ⟨rfl, rfl⟩
  refine AC.wk (Wk.row (k := 4) (i := 1) (o := ⟨va, 121, 2, rgEs l⟩) rfl rfl rfl (rgEs_closed _)) ?_
  have hml := madeR_len l
  have hnl := notR_len (madeR l)
  have fin : ∀ c : List Rg, c = (if neg then notR (madeR l) else madeR l) → match clsF s with
      | .error p => [some (cro ver s a3 bad2)] = [some (cro ver s a3 p)]
      | .ok c' => c = c' ∧ [some (cro ver s a3 bad2)] = [some (cro ver s a3 (-1))] := by
    intro c hc
    rcases hcut with ⟨rfl, _, _, he, hT3⟩ | ⟨p, rfl, hE, _⟩
    · rw [hF, hT3]
      simp only [clsE, if_pos he]
      exact ⟨hc, trivial⟩
    · rw [hE]
  cases hng : neg with
  | true =>
    rw [hng] at fin
    refine AC.go tab ?_
    refine gos ?_
    refine CallW.pure (made_does l (by omega)) rfl rfl ?_
    refine gos ?_
    refine CallW.pure (cnot_does (madeR l) (by omega)) rfl rfl ?_
    refine gos ?_
    refine RetW.plain (by simp) ?_
    exact ⟨_, a3, rfl, by omega, fin _ rfl⟩
  | false =>
    rw [hng] at fin
    refine AC.go tab ?_
    refine gos ?_
    refine CallW.pure (made_does l (by omega)) rfl rfl ?_
    refine gos ?_
    refine RetW.plain (by simp) ?_
    exact ⟨_, a3, rfl, by omega, fin _ rfl⟩
def clsV : Except Nat (List Rg) → AV
  | .error p => .tuple [.nils, .int .i64 1, .int .i64 p]
  | .ok c => .tuple [.fsl (rgEs c), .int .i64 0, .int .i64 0]
theorem ClsParse_does (m : Int) (s : List UInt8) (hs : s.length < 60000) : Does Tryz.prog (GL m) 124 [.str s] [] fun ae _ => ae = .ret (clsV (clsF s)) := by
  refine Does.bodyA tab Tryz.func124 rfl rfl ?_
  refine AC.step tab ?_
  refine gos ?_
  refine AC.step tab ?_
  refine gos ?_
  intro v
  refine gos ?_
  refine AC.step tab ?_
  refine gos ?_
  have hC := rclass_does m s hs v
  refine CallW.of1 0 (o := cro v s 0 (-1)) hC rfl rfl rfl rfl ?_
  rintro ae O ⟨c, a', rfl, hcl, hO⟩
  cases hF : clsF s with
  | error p =>
    rw [hF] at hO
    simp only at hO
    refine ⟨_, hO, rfl, ?_, ?_⟩
    · rfl
    refine gos ?_
    refine AC.step tab ?_
    refine gos ?_
    refine DrawW.L ?_
    refine gos ?_
    refine RetW.plain (by simp) ?_
    rfl
  | ok c' =>
    rw [hF] at hO
    simp only at hO
    obtain ⟨rfl, hO⟩ := hO
    refine ⟨_, hO, rfl, ?_, ?_⟩
    · rfl
    refine gos ?_
    refine AC.step tab ?_
    refine gos ?_
    refine AC.go tab ?_
    refine gos ?_
    refine RetW.plain (by simp) ?_
    rfl
end Go.Proofs.YtjjppmbojcgdgaaGreatDoor
