/- Numbers by the base of sixteen. -/
import Derived.Test.YtjjppmbojcgdgaaGreatDoorJ08
import Derived.Test.YtjjppmbojcgdgaaGreatDoorJ02
set_option linter.unusedVariables false
set_option linter.unusedSimpArgs false
set_option maxRecDepth 100000
set_option maxHeartbeats 4000000

namespace Go.Proofs.YtjjppmbojcgdgaaGreatDoor
open Go Go.Abs
attribute [local irreducible] DrawW CallW RetW AC Does CmpW
set_option maxRecDepth 100000
variable {G : Globs}
structure Num where
  hash : Nat
  mi : Nat
  mnf : Nat
  mxf : Nat
  g : Nat
  m : Nat
def Num.zero : Num := ⟨0, 0, 0, 0, 0, 0⟩
structure Aff where
  a : AV
  b : AV
  c : AV
  d : AV
def Aff.ok (x : Aff) : Prop := closed x.a = true ∧ closed x.b = true ∧ closed x.c = true ∧ closed x.d = true
def patCells (x : Aff) (two : Bool) (N : Num) : List AV := [x.a, x.b, x.c, x.d, .bool two, .int .i64 N.hash, .int .i64 N.mi, .int .i64 N.mnf, .int .i64 N.mxf, .int .i64 N.g, .int .i64 N.m]
def patO (pv : Nat) (x : Aff) (two : Bool) (N : Num) : AObj := ⟨pv, 53, 11, [patCells x two N]⟩
theorem patO_closed {pv : Nat} {x : Aff} {two : Bool} {N : Num} (h : x.ok) : closedLL (patO pv x two N).es = true := by
  obtain ⟨h1, h2, h3, h4⟩ := h
  simp [patO, patCells, closedLL, closedL, h1, h2, h3, h4, closed]
def ints (cs : List Nat) : List (List AV) := cs.map fun (c : Nat) => [.int .i64 (c : Int)]
def intO (cv : Nat) (cs : List Nat) : AObj := ⟨cv, 3, 1, ints cs⟩
@[simp] theorem intO_len (cv : Nat) (cs : List Nat) : (intO cv cs).es.length = cs.length := by simp [intO, ints]
theorem intO_closed (cv : Nat) : ∀ cs : List Nat, closedLL (intO cv cs).es = true
  | [] => rfl
  | c :: cs => by
    have := intO_closed cv cs
    simp only [intO, ints] at this
    simp [intO, ints, closedLL, closedL, closed, this]
def grpF (places : Nat) (cs : List Nat) (N : Num) : Option Num :=
  if places = 0 then none else match cs with
    | [] => some N
    | [c] => if places = c then none else some { N with g := places - c }
    | [c, d] => if places = d then none else if d - c = places - d then some { N with g := places - d } else some { N with g := places - d, m := d - c }
    | _ => none
theorem groups_does (s : List UInt8) (a ver pv cv places : Nat) (x : Aff) (hx : x.ok) (two : Bool) (N : Num) (cs : List Nat) (hp : places < 1000000) (hc : cs.length ≤ 2) (h1 : ∀ c ∈ cs, c ≤ places) (h2 : ∀ c d, cs = [c, d] → c ≤ d) :
    Does Tryz.prog G 301 [.ptr 0 ver 0 0, .ptr 1 pv 0 0, .int .i64 places, .sl 2 cv] [some (rdr ver s a), some (patO pv x two N), some (intO cv cs)] fun ae O => match grpF places cs N with
      | none => ae = .panic (faultV a)
      | some N' => ae = .ret (.tuple []) ∧ O = [some (rdr ver s a), some (patO pv x two N'), some (intO cv cs)] := by
  refine Does.body tab Tryz.func301 rfl rfl ?_
  refine gos ?_
  by_cases h0 : places = 0
  · refine CmpW.t (by simpa using h0) ?_
    refine gos ?_
    refine CallW.of1 0 (fail_does s a ver) rfl rfl rfl rfl ?_
    rintro ae O ⟨rfl, rfl⟩
    refine ⟨_, rfl, rfl, rfl, ?_⟩
    refine gos ?_
    refine ⟨by simp, ?_⟩
    simp [grpF, h0]
  · refine CmpW.f (by simpa using h0) ?_
    refine gos ?_
    match cs, hc with
    | [], _ =>
      refine gos ?_
      refine RetW.plain (by simp) ?_
      simp [grpF, h0]
    | [c], _ =>
      have hc1 := h1 c (by simp)
      refine gos ?_
      refine And.intro (by simp) ?_
      refine gos ?_
      have e1 : (places : Int) - (c : Int) = ((places - c : Nat) : Int) := by omega
      rw [e1]
      by_cases hg : places = c
      · refine CmpW.t (by simp; omega) ?_
        refine gos ?_
        refine CallW.of1 0 (fail_does s a ver) rfl rfl rfl rfl ?_
        rintro ae O ⟨rfl, rfl⟩
        refine ⟨_, rfl, rfl, rfl, ?_⟩
        refine gos ?_
        refine ⟨by simp, ?_⟩
        simp [grpF, h0, hg]
      · refine CmpW.f (by simp; omega) ?_
        refine gos ?_
        refine DrawW.L ?_
        refine gos ?_
        refine RetW.plain (by simp) ?_
        simp only [grpF, if_neg h0, if_neg hg]
        exact ⟨trivial, rfl⟩
    | [c, d], _ =>
      have hc1 := h1 c (by simp)
      have hd1 := h1 d (by simp)
      have hcd := h2 c d rfl
      refine gos ?_
      refine And.intro (by simp) ?_
      refine gos ?_
      have e1 : (places : Int) - (d : Int) = ((places - d : Nat) : Int) := by omega
      rw [e1]
      by_cases hg : places = d
      · refine CmpW.t (by simp; omega) ?_
        refine gos ?_
        refine CallW.of1 0 (fail_does s a ver) rfl rfl rfl rfl ?_
        rintro ae O ⟨rfl, rfl⟩
        refine ⟨_, rfl, rfl, rfl, ?_⟩
        refine gos ?_
        refine ⟨by simp, ?_⟩
        simp [grpF, h0, hg]
      · refine CmpW.f (by simp; omega) ?_
        refine gos ?_
        refine DrawW.L ?_
        refine gos ?_
        refine And.intro (by simp) ?_
        refine gos ?_
        have e2 : (d : Int) - (c : Int) = ((d - c : Nat) : Int) := by omega
        rw [e2]
        by_cases hm : d - c = places - d
        · refine CmpW.f (by simp; omega) ?_
          refine gos ?_
          refine RetW.plain (by simp) ?_
          simp only [grpF, if_neg h0, if_neg hg, if_pos hm]
          exact ⟨trivial, rfl⟩
        · refine CmpW.t (by simp; omega) ?_
          refine gos ?_
          refine And.intro (by simp) ?_
          refine gos ?_
          have e2 : (d : Int) - (c : Int) = ((d - c : Nat) : Int) := by omega
          rw [e2]
          refine gos ?_
          refine RetW.plain (by simp) ?_
          simp only [grpF, if_neg h0, if_neg hg, if_neg hm]
          exact ⟨trivial, rfl⟩
end Go.Proofs.YtjjppmbojcgdgaaGreatDoor

namespace Go.Proofs.YtjjppmbojcgdgaaGreatDoor
open Go Go.Abs
attribute [local irreducible] DrawW CallW RetW AC Does CmpW
set_option maxRecDepth 100000
variable {G : Globs}
structure Fnd where
  c0 : Bool
  c1 : Bool
  c2 : Bool
  c3 : Bool
  c4 : Bool
  c5 : Bool
def rro (ver : Nat) (s : List UInt8) (a n : Nat) (F : Fnd) : AObj := ⟨ver, 208, 9, [[.str s, .int .i64 a, .int .i64 n, .bool F.c0, .bool F.c1, .bool F.c2, .bool F.c3, .bool F.c4, .bool F.c5]]⟩
def rfault (r : Int × Nat) : AV := .iface 203 (.agg [.int .i64 r.1, .int .i64 r.2])
theorem rfail_does (e : Int) (a : Nat) : Does Tryz.prog G 191 [.int .i64 e, .int .i64 a] [] fun ae O => ae = .panic (rfault (e, a)) ∧ O = [] := by
  refine Does.body tab Tryz.func191 rfl rfl ?_
  refine gos ?_
  exact ⟨Nat.le_refl _, rfl, rfl⟩
theorem blanks_does (s : List UInt8) (a n : Nat) (F : Fnd) (ha : a ≤ s.length) (hs : s.length < 100000) (ver : Nat) :
    Does Tryz.prog G 237 [.ptr 0 ver 0 0] [some (rro ver s a n F)] fun ae O => ae = .ret (.tuple []) ∧ O = [some (rro ver s (bl s a) n F)] := by
  refine Does.body tab Tryz.func237 rfl rfl ?_
  refine gos ?_
  refine AC.loopC tab (fun f e h => ∃ k, s.length < f + (a + k) ∧ a + k ≤ s.length ∧ k ≤ tw s (fun c => c == 32) a ∧ e = [.ptr 0 ver 0 0] ++ List.replicate 30 .any ∧ h = [some (rro ver s (a + k) n F)]) (s.length + 1) ⟨_, fgts, 0, by omega, by omega, by omega, rfl, rfl⟩ ?_
  rintro f e h ⟨k, hf, hk, hkt, rfl, rfl⟩
  refine gos ?_
  refine DrawW.L ?_
  refine gos ?_
  by_cases hlt : a + k < s.length
  · obtain ⟨c, hc⟩ : ∃ c, s[a + k]? = some c := ⟨_, List.getElem?_eq_getElem hlt⟩
    refine CmpW.t (by simp; omega) ?_
    refine gos ?_
    refine And.intro (by omega) ⟨c, hc, ?_⟩
    refine gos ?_
    by_cases h32 : c = 32
    · subst h32
      refine CmpW.t (by simp) ?_
      refine gos ?_
      refine ⟨f - 1, _, 1, by omega, fgts, k + 1, by omega, by omega, tw_go hkt hc rfl, rfl, rfl⟩
    · refine CmpW.f (by simp; exact fun h => h32 (u8_of h rfl)) ?_
      refine gos ?_
      have : bl s a = a + k := by unfold bl; rw [← tw_stop hkt fun d hd => by rw [hc] at hd; cases hd; simpa using h32]
      rw [this]
      refine RetW.plain (by simp) ?_
      exact ⟨rfl, rfl⟩
  · refine CmpW.f (by simp; omega) ?_
    refine gos ?_
    have : bl s a = a + k := by unfold bl; rw [← tw_stop hkt fun d hd => by rw [List.getElem?_eq_none (by omega)] at hd; cases hd]
    rw [this]
    refine RetW.plain (by simp) ?_
    exact ⟨rfl, rfl⟩
def pk (s : List UInt8) (a : Nat) : Nat := match s[bl s a]? with | some c => c.toNat | none => 0
theorem peek_does (s : List UInt8) (a n : Nat) (F : Fnd) (ha : a ≤ s.length) (hs : s.length < 100000) (ver : Nat) :
    Does Tryz.prog G 188 [.ptr 0 ver 0 0] [some (rro ver s a n F)] fun ae O => ae = .ret (.int .u8 (pk s a)) ∧ O = [some (rro ver s (bl s a) n F)] := by
  refine Does.body tab Tryz.func188 rfl rfl ?_
  refine gos ?_
  refine CallW.meth 0 (blanks_does s a n F ha hs ver) rfl rfl rfl rfl rfl rfl ?_
  refine gos ?_
  refine DrawW.L ?_
  refine gos ?_
  have hb := bl_le ha
  by_cases hlt : bl s a < s.length
  · obtain ⟨c, hc⟩ : ∃ c, s[bl s a]? = some c := ⟨_, List.getElem?_eq_getElem hlt⟩
    refine CmpW.f (by simp; omega) ?_
    refine gos ?_
    refine DrawW.L ?_
    refine gos ?_
    refine And.intro (by omega) ⟨c, hc, ?_⟩
    refine gos ?_
    refine RetW.plain (by simp) ?_
    simp only [pk, hc]
    exact ⟨trivial, rfl⟩
  · refine CmpW.t (by simp; omega) ?_
    refine gos ?_
    refine RetW.plain (by simp) ?_
    simp only [pk, List.getElem?_eq_none (show s.length ≤ bl s a by omega)]
    exact ⟨rfl, rfl⟩
theorem take_does (s t : List UInt8) (a n : Nat) (F : Fnd) (ha : a ≤ s.length) (hs : s.length < 100000) (ver : Nat) :
    Does Tryz.prog G 190 [.ptr 0 ver 0 0, .str t] [some (rro ver s a n F)] fun ae O => ae = .ret (.bool (pre s (bl s a) t)) ∧ O = [some (rro ver s (if pre s (bl s a) t then bl s a + t.length else bl s a) n F)] := by
  refine Does.body tab Tryz.func190 rfl rfl ?_
  refine gos ?_
  refine CallW.meth 0 (blanks_does s a n F ha hs ver) rfl rfl rfl rfl rfl rfl ?_
  refine gos ?_
  refine DrawW.L ?_
  have hb := bl_le ha
  refine gos ?_
  refine And.intro (And.intro (by omega) (by omega)) ?_
  refine CallW.pure (HasPrefix_does G _ _) rfl rfl ?_
  have h' : t.isPrefixOf (s.drop (bl s a : Int).toNat) = pre s (bl s a) t := rfl
  rw [h']
  cases hp : pre s (bl s a) t with
  | true =>
    have hle : bl s a + t.length ≤ s.length := by
      by_cases h0 : t = []
      · subst h0; simpa using hb.2
      · exact pre_le hp h0
    refine gos ?_
    refine RetW.plain (by simp) ?_
    simp only [if_true]
    exact ⟨trivial, rfl⟩
  | false =>
    refine gos ?_
    refine RetW.plain (by simp) ?_
    exact ⟨rfl, rfl⟩
theorem want_does (s t : List UInt8) (a n : Nat) (F : Fnd) (ha : a ≤ s.length) (hs : s.length < 100000) (ver : Nat) :
    Does Tryz.prog G 240 [.ptr 0 ver 0 0, .str t] [some (rro ver s a n F)] fun ae O => match pre s (bl s a) t with
      | true => ae = .ret (.tuple []) ∧ O = [some (rro ver s (bl s a + t.length) n F)]
      | false => ae = .panic (rfault (1, bl s a)) := by
  refine Does.body tab Tryz.func240 rfl rfl ?_
  refine gos ?_
  refine CallW.meth 0 (take_does s t a n F ha hs ver) rfl rfl rfl rfl rfl rfl ?_
  cases hp : pre s (bl s a) t with
  | true =>
    simp only [if_true]
    refine gos ?_
    refine RetW.plain (by simp) ?_
    exact ⟨rfl, rfl⟩
  | false =>
    simp only [Bool.false_eq_true, if_false]
    refine gos ?_
    refine CallW.of0 (rfail_does 1 (bl s a)) rfl ?_
    rintro ae ⟨rfl, _⟩
    refine ⟨rfl, ?_⟩
    refine gos ?_
    exact ⟨by simp, rfl⟩
theorem run_does (s : List UInt8) (lo hi : UInt8) (a n : Nat) (F : Fnd) (ha : a ≤ s.length) (hs : s.length < 100000) (ver : Nat) :
    Does Tryz.prog G 272 [.ptr 0 ver 0 0, .int .u8 lo.toNat, .int .u8 hi.toNat] [some (rro ver s a n F)] fun ae O => ae = .ret (.int .i64 (tw s (fun c => lo ≤ c && c ≤ hi) a)) ∧ O = [some (rro ver s a n F)] := by
  refine Does.body tab Tryz.func272 rfl rfl ?_
  refine gos ?_
  refine AC.loopC tab (fun f e h => ∃ k : Nat, s.length < f + (a + k) ∧ a + k ≤ s.length ∧ k ≤ tw s (fun c => lo ≤ c && c ≤ hi) a ∧ e = [.ptr 0 ver 0 0, .int .u8 lo.toNat, .int .u8 hi.toNat, .any, .any, .any, .any, .int .i64 k] ++ List.replicate 45 .any ∧ h = [some (rro ver s a n F)]) (s.length + 1) ⟨_, fgts, 0, by omega, by omega, by omega, rfl, rfl⟩ ?_
  rintro f e h ⟨k, hf, hk, hkt, rfl, rfl⟩
  refine gos ?_
  refine DrawW.L ?_
  refine gos ?_
  have stop : (∀ d, s[a + k]? = some d → (lo ≤ d && d ≤ hi) = false) → k = tw s (fun c => lo ≤ c && c ≤ hi) a := tw_stop hkt
  by_cases hlt : a + k < s.length
  · obtain ⟨c, hc⟩ : ∃ c, s[a + k]? = some c := ⟨_, List.getElem?_eq_getElem hlt⟩
    refine CmpW.t (by simp; omega) ?_
    refine gos ?_
    refine And.intro (by omega) ⟨c, hc, ?_⟩
    refine gos ?_
    by_cases h1 : lo ≤ c
    · have h1' : lo.toNat ≤ c.toNat := h1
      refine CmpW.t (by simp; omega) ?_
      refine gos ?_
      refine And.intro (by omega) ⟨c, hc, ?_⟩
      refine gos ?_
      by_cases h2 : c ≤ hi
      · have h2' : c.toNat ≤ hi.toNat := h2
        refine CmpW.t (by simp; omega) ?_
        refine gos ?_
        refine ⟨f - 1, _, 1, by omega, fgts, k + 1, by omega, by omega, tw_go hkt hc (by simp [h1, h2]), rfl, rfl⟩
      · have h2' : ¬ c.toNat ≤ hi.toNat := h2
        refine CmpW.f (by simp; omega) ?_
        refine gos ?_
        rw [← stop fun d hd => by rw [hc] at hd; cases hd; simp [h2]]
        refine RetW.plain (by simp) ?_
        exact ⟨rfl, rfl⟩
    · have h1' : ¬ lo.toNat ≤ c.toNat := h1
      refine CmpW.f (by simp; omega) ?_
      refine gos ?_
      rw [← stop fun d hd => by rw [hc] at hd; cases hd; simp [h1]]
      refine RetW.plain (by simp) ?_
      exact ⟨rfl, rfl⟩
  · refine CmpW.f (by simp; omega) ?_
    refine gos ?_
    rw [← stop fun d hd => by rw [List.getElem?_eq_none (by omega)] at hd; cases hd]
    refine RetW.plain (by simp) ?_
    exact ⟨rfl, rfl⟩
def wd (s : List UInt8) (a : Nat) : List UInt8 := (s.drop (bl s a)).takeWhile fun c => 97 ≤ c && c ≤ 122
theorem word_does (s : List UInt8) (a n : Nat) (F : Fnd) (ha : a ≤ s.length) (hs : s.length < 100000) (ver : Nat) :
    Does Tryz.prog G 238 [.ptr 0 ver 0 0] [some (rro ver s a n F)] fun ae O => ae = .ret (.str (wd s a)) ∧ O = [some (rro ver s (bl s a) n F)] := by
  refine Does.body tab Tryz.func238 rfl rfl ?_
  refine gos ?_
  refine CallW.meth 0 (blanks_does s a n F ha hs ver) rfl rfl rfl rfl rfl rfl ?_
  refine gos ?_
  have hb := bl_le ha
  have hw := tw_le (fun c => (97 : UInt8) ≤ c && c ≤ 122) hb.2
  have hr := run_does (G := G) s 97 122 (bl s a) n F hb.2 hs ver
  refine DrawW.P (.take 0 (.take 1 (.take 2 (.take 4 (.take 5 (.take 6 (.take 8 (.take 9 (.take 10 (.take 12 (.fork (.cons 3 (.fork (.cons 7 (.fork (.cons 11 (.take 13 (.take 14 (.take 15 (.take 16 .done)))) (.cons 13 (.take 11 (.take 14 (.take 15 (.take 16 .done)))) .nil))) (.cons 11 (.fork (.cons 7 (.take 13 (.take 14 (.take 15 (.take 16 .done)))) (.cons 13 (.take 7 (.take 14 (.take 15 (.take 16 .done)))) .nil))) (.cons 13 (.take 7 (.take 11 (.take 14 (.take 15 (.take 16 .done))))) .nil)))) (.cons 7 (.fork (.cons 3 (.fork (.cons 11 (.take 13 (.take 14 (.take 15 (.take 16 .done)))) (.cons 13 (.take 11 (.take 14 (.take 15 (.take 16 .done)))) .nil))) (.cons 11 (.fork (.cons 3 (.take 13 (.take 14 (.take 15 (.take 16 .done)))) (.cons 13 (.take 3 (.take 14 (.take 15 (.take 16 .done)))) .nil))) (.cons 13 (.take 3 (.take 11 (.take 14 (.take 15 (.take 16 .done))))) .nil)))) (.cons 11 (.fork (.cons 3 (.fork (.cons 7 (.take 13 (.take 14 (.take 15 (.take 16 .done)))) (.cons 13 (.take 7 (.take 14 (.take 15 (.take 16 .done)))) .nil))) (.cons 7 (.fork (.cons 3 (.take 13 (.take 14 (.take 15 (.take 16 .done)))) (.cons 13 (.take 3 (.take 14 (.take 15 (.take 16 .done)))) .nil))) (.cons 13 (.take 3 (.take 7 (.take 14 (.take 15 (.take 16 .done))))) .nil)))) (.cons 13 (.take 3 (.take 7 (.take 11 (.take 14 (.take 15 (.take 16 .done)))))) .nil))))))))))))))) ?_
  (repeat' (first | exact trivial | refine gon ?_ | refine CallW.meth 0 hr rfl rfl rfl rfl rfl rfl ?_ | refine And.intro (And.intro (by omega) (And.intro (by omega) (by omega))) ?_ | refine And.intro ?_ ?_))
  all_goals
    refine RetW.plain (by simp) ?_
    refine ⟨?_, rfl⟩
    rw [show ((bl s a : Int) + (tw s (fun c => (97 : UInt8) ≤ c && c ≤ 122) (bl s a) : Int)).toNat = bl s a + tw s (fun c => (97 : UInt8) ≤ c && c ≤ 122) (bl s a) by omega, Int.toNat_natCast, tw_text]
    rfl
end Go.Proofs.YtjjppmbojcgdgaaGreatDoor

namespace Go.Proofs.YtjjppmbojcgdgaaGreatDoor
open Go Go.Abs
attribute [local irreducible] DrawW CallW RetW AC Does CmpW
variable {G : Globs}
def isHex (c : UInt8) : Bool := (48 ≤ c && c ≤ 57) || (97 ≤ c && c ≤ 102)
def hexD (c : UInt8) : Nat := if c.toNat ≤ 57 then c.toNat - 48 else c.toNat - 87
def hexV (l : List UInt8) : Nat := l.foldl (fun n c => n * 16 + hexD c) 0
theorem isHex_cases {c : UInt8} (h : isHex c = true) : (48 ≤ c.toNat ∧ c.toNat ≤ 57) ∨ (97 ≤ c.toNat ∧ c.toNat ≤ 102) := by
  simp only [isHex, Bool.or_eq_true, Bool.and_eq_true, decide_eq_true_eq] at h
  rcases h with ⟨h1, h2⟩ | ⟨h1, h2⟩
  · exact .inl ⟨h1, h2⟩
  · exact .inr ⟨h1, h2⟩
theorem hexD_lt {c : UInt8} (h : isHex c = true) : hexD c < 16 := by
  unfold hexD
  rcases isHex_cases h with h | h <;> split <;> omega
theorem hexV_snoc (l : List UInt8) (c : UInt8) : hexV (l ++ [c]) = hexV l * 16 + hexD c := by simp [hexV]
theorem hexV_lt : ∀ (n : Nat) (l : List UInt8), l.length = n → (∀ c ∈ l, isHex c = true) → hexV l < 16 ^ n
  | 0, l, hl, _ => by rw [List.eq_nil_of_length_eq_zero hl]; simp [hexV]
  | n + 1, l, hl, h => by
    obtain ⟨l', c, rfl⟩ : ∃ l' c, l = l' ++ [c] := by
      have hne : l ≠ [] := by intro e; rw [e] at hl; simp at hl
      exact ⟨l.dropLast, l.getLast hne, (List.dropLast_concat_getLast hne).symm⟩
    rw [hexV_snoc]
    have h1 := hexV_lt n l' (by simpa using hl) (fun d hd => h d (by simp [hd]))
    have h2 := hexD_lt (h c (by simp))
    rw [Nat.pow_succ]; omega
theorem lower_does (c : UInt8) (h1 : 97 ≤ c.toNat) (h2 : c.toNat ≤ 102) : Does Tryz.prog G 332 [.int .u8 c.toNat] [] fun ae _ => ae = .ret (.int .u8 c.toNat) := by
  have h : c.toNat = 97 ∨ c.toNat = 98 ∨ c.toNat = 99 ∨ c.toNat = 100 ∨ c.toNat = 101 ∨ c.toNat = 102 := by omega
  rcases h with h | h | h | h | h | h
  all_goals
    rw [h]
    refine Does.body tab Tryz.func332 rfl rfl ?_
    refine gos ?_
    refine RetW.plain (by simp) ?_
    rfl
theorem iParseUint_does (l : List UInt8) (h0 : l ≠ []) (hl : l.length ≤ 6) (hx : ∀ c ∈ l, isHex c = true) : Does Tryz.prog G 326 [.str l, .int .i64 16, .int .i64 32] [] fun ae _ => ae = .ret (.tuple [.int .u64 (hexV l), .nili]) := by
  refine Does.bodyA tab Tryz.func326 rfl rfl ?_
  refine AC.step tab ?_
  refine gos ?_
  refine AC.step tab ?_
  refine gos ?_
  refine CmpW.f (by simpa using h0) ?_
  refine gos ?_
  refine AC.step tab ?_
  refine gos ?_
  refine AC.step tab ?_
  refine gos ?_
  refine AC.step tab ?_
  refine gos ?_
  refine AC.step tab ?_
  refine gos ?_
  refine AC.step tab ?_
  refine gos ?_
  refine AC.step tab ?_
  refine gos ?_
  refine AC.step tab ?_
  refine gos ?_
  refine And.intro ?_ ?_
  · decide
  refine gos ?_
  refine AC.step tab ?_
  refine gos ?_
  refine AC.step tab ?_
  refine gos ?_
  refine AC.cutF tab (fun e h => e = [.any, .any, .any, .any, .any, .any, .any, .any, .any, .str l, .any, .any, .bool false, .int .u64 (hexV l)] ++ List.replicate 158 .any ∧ h = []) ?_ ?_
  · refine gos ?_
    have hM : IntKind.u64.wrap (IntKind.u64.wrap (1 * 2 ^ min (IntKind.u64.wrap 32).toNat IntKind.u64.bits) - 1) = 4294967295 := by decide
    have hbl : (byteEs l).length = l.length := by simp [byteEs]
    rw [hM, hbl]
    refine AC.loopC tab (fun f e h => ∃ k : Nat, f + k = l.length + 1 ∧ k ≤ l.length ∧
      e = [.any, .int .i64 16, .any, .any, .any, .any, .any, .any, .bool false, .str l, .int .u64 1152921504606846976, .int .u64 4294967295, .bool false, .int .u64 (hexV (l.take k))] ++ List.replicate 85 .any ++ [.fsl (byteEs l), .int .i64 l.length, .int .i64 k] ++ List.replicate 70 .any ∧ h = []) (l.length + 1) ⟨_, fgts, 0, by omega, by omega, rfl, rfl⟩ ?_
    rintro f e h ⟨k, hf, hk, rfl, rfl⟩
    have hn : hexV (l.take k) < 16777216 := by
      have h1 := hexV_lt k (l.take k) (by simp; omega) (fun c hc => hx c (List.mem_of_mem_take hc))
      have h2 : 16 ^ k ≤ 16 ^ 6 := Nat.pow_le_pow_right (by omega) (by omega)
      omega
    refine gos ?_
    by_cases hlt : k < l.length
    · obtain ⟨c, hc⟩ : ∃ c, l[k]? = some c := ⟨_, List.getElem?_eq_getElem hlt⟩
      have hch := hx c (List.mem_of_getElem? hc)
      have hd16 := hexD_lt hch
      have htk : l.take (k + 1) = l.take k ++ [c] := by
        rw [List.take_add_one, hc]; rfl
      refine CmpW.T ?_
      refine gos ?_
      refine And.intro (fun y hy => by obtain ⟨z, _, rfl⟩ := List.mem_map.1 hy; rfl) (And.intro (by omega) ⟨[.int .u8 c.toNat], by rw [Int.toNat_natCast]; simp [byteEs, hc], ?_⟩)
      refine gos ?_
      have hcc := isHex_cases hch
      refine CmpW.f (by simp; omega) ?_
      refine gos ?_
      obtain ⟨n, hnE⟩ : ∃ n, n = hexV (l.take k) := ⟨_, rfl⟩
      rw [← hnE] at hn ⊢
      have hnn : hexV (l.take (k + 1)) = n * 16 + hexD c := by rw [htk, hexV_snoc, hnE]
      have e1 : IntKind.u64.wrap ((n : Int) * IntKind.u64.wrap 16) = ((n * 16 : Nat) : Int) := by
        rw [wrap_u64 (n := 16) (by omega) (by omega), wrap_u64 (by omega) (by omega)]; omega
      have e2 : IntKind.u64.wrap (((n * 16 : Nat) : Int) + IntKind.u64.wrap (hexD c : Int)) = ((n * 16 + hexD c : Nat) : Int) := by
        rw [wrap_u64 (n := (hexD c : Int)) (by omega) (by omega), wrap_u64 (by omega) (by omega)]; omega
      have e16 : IntKind.u8.wrap 16 = 16 := by decide
      rcases hcc with hcc | hcc
      · have e0 : IntKind.u8.wrap ((c.toNat : Int) - 48) = (hexD c : Int) := by
          rw [wrap_u8 (by omega) (by omega)]; unfold hexD; rw [if_pos (by omega)]; omega
        refine CmpW.T ?_
        refine gos ?_
        refine CmpW.T ?_
        refine gos ?_
        rw [e0, e16]
        refine CmpW.N ?_
        refine gos ?_
        refine CmpW.N ?_
        refine gos ?_
        rw [e1, e2]
        refine CmpW.N ?_
        refine gos ?_
        refine CmpW.N ?_
        refine gos ?_
        rw [← hnn]
        exact ⟨f - 1, _, 0, by omega, fgts, k + 1, by omega, by omega, rfl, rfl⟩
      · have e0 : IntKind.u8.wrap (IntKind.u8.wrap ((c.toNat : Int) - 97) + 10) = (hexD c : Int) := by
          rw [wrap_u8 (n := (c.toNat : Int) - 97) (by omega) (by omega), wrap_u8 (by omega) (by omega)]; unfold hexD; rw [if_neg (by omega)]; omega
        have hlw := lower_does (G := G) c hcc.1 hcc.2
        refine CmpW.T ?_
        refine gos ?_
        refine CmpW.N ?_
        refine gos ?_
        refine CallW.pure hlw rfl rfl ?_
        refine gos ?_
        refine CmpW.T ?_
        refine gos ?_
        refine CallW.pure hlw rfl rfl ?_
        refine gos ?_
        refine CmpW.T ?_
        refine gos ?_
        refine CallW.pure hlw rfl rfl ?_
        refine gos ?_
        rw [e0, e16]
        refine CmpW.N ?_
        refine gos ?_
        refine CmpW.N ?_
        refine gos ?_
        rw [e1, e2]
        refine CmpW.N ?_
        refine gos ?_
        refine CmpW.N ?_
        refine gos ?_
        rw [← hnn]
        exact ⟨f - 1, _, 0, by omega, fgts, k + 1, by omega, by omega, rfl, rfl⟩
    · refine CmpW.N ?_
      refine gos ?_
      have : k = l.length := by omega
      subst this
      rw [List.take_length]
      exact ⟨_, 0, fgts, rfl, rfl⟩
  rintro e h ⟨rfl, rfl⟩
  refine AC.go tab ?_
  refine gos ?_
  refine RetW.plain (by simp) ?_
  rfl
end Go.Proofs.YtjjppmbojcgdgaaGreatDoor
