/- The reader of rules: its small steps. -/
import Derived.Test.YtpbjjhpihhnomaaGreatDoorJ05
import Derived.Test.YtpbjjhpihhnomaaGreatDoorRows
import Derived.ProofKit
import Derived.Test.YtpbjjhpihhnomaaGreatDoorJ01
import Derived.Test.YtpbjjhpihhnomaaGreatDoorJ06
set_option linter.unusedVariables false
set_option linter.unusedSimpArgs false
set_option maxRecDepth 100000
set_option maxHeartbeats 4000000

namespace Go.Proofs.YtpbjjhpihhnomaaGreatDoor
open Go Go.Abs Go.Opn
theorem oStr : Opnd Tryz.prog 9 1 (fun s : List UInt8 => [.str s]) (fun s => s.length ≤ reachBytes) := Opnd.str Tryz.underlying9 (by kernel_rfl)
theorem oInt : Opnd Tryz.prog 3 1 (fun z : Int => [.int .i64 z]) (fun _ => True) := (Opnd.int Tryz.underlying3 (by kernel_rfl)).map id (fun _ => rfl) (fun _ _ => trivial)
theorem reach_le {n : Nat} (h : n ≤ reachBytes) : n ≤ 140737488355328 := by unfold reachBytes at h; exact Nat.le_trans h (by decide)
end Go.Proofs.YtpbjjhpihhnomaaGreatDoor

namespace Go.Proofs.YtpbjjhpihhnomaaGreatDoor
open Go Go.Abs
theorem u8_of {c d : UInt8} {n : Int} (h : (c.toNat : Int) = n) (hd : (d.toNat : Int) = n) : c = d := UInt8.toNat_inj.1 (by omega)
def tw (s : List UInt8) (p : UInt8 → Bool) (a : Nat) : Nat := ((s.drop a).takeWhile p).length
theorem twl_in (p : UInt8 → Bool) : ∀ (l : List UInt8) (n : Nat), n < (l.takeWhile p).length → ∃ c, l[n]? = some c ∧ p c = true
  | [], n, h => by simp at h
  | c :: l, n, h => by
    by_cases hp : p c = true
    · cases n with
      | zero => exact ⟨c, rfl, hp⟩
      | succ n => simp [hp] at h; simpa using twl_in p l n h
    · simp [hp] at h
theorem twl_at (p : UInt8 → Bool) : ∀ (l : List UInt8) (c : UInt8), l[(l.takeWhile p).length]? = some c → p c = false
  | [], c, h => by simp at h
  | d :: l, c, h => by
    by_cases hp : p d = true
    · simp [hp] at h; exact twl_at p l c h
    · simp [hp] at h; subst h; simpa using hp
theorem tw_in {s : List UInt8} {p : UInt8 → Bool} {a n : Nat} (h : n < tw s p a) : ∃ c, s[a + n]? = some c ∧ p c = true := by
  obtain ⟨c, h1, h2⟩ := twl_in p _ n h
  rw [List.getElem?_drop] at h1
  exact ⟨c, h1, h2⟩
theorem tw_at {s : List UInt8} {p : UInt8 → Bool} {a : Nat} {c : UInt8} (h : s[a + tw s p a]? = some c) : p c = false := by
  refine twl_at p (s.drop a) c ?_
  rw [List.getElem?_drop]; exact h
theorem tw_le {s : List UInt8} (p : UInt8 → Bool) {a : Nat} (h : a ≤ s.length) : a + tw s p a ≤ s.length := by
  have := (List.takeWhile_prefix p (l := s.drop a)).length_le
  rw [List.length_drop] at this
  unfold tw; omega
theorem tw_go {s : List UInt8} {p : UInt8 → Bool} {a n : Nat} {c : UInt8} (h : n ≤ tw s p a) (hc : s[a + n]? = some c) (hp : p c = true) : n + 1 ≤ tw s p a := by
  by_cases e : n = tw s p a
  · subst e; rw [tw_at hc] at hp; cases hp
  · omega
theorem tw_stop {s : List UInt8} {p : UInt8 → Bool} {a n : Nat} (h : n ≤ tw s p a) (hc : ∀ c, s[a + n]? = some c → p c = false) : n = tw s p a := by
  by_cases e : n = tw s p a
  · exact e
  · obtain ⟨c, h1, h2⟩ := tw_in (s := s) (p := p) (a := a) (n := n) (by omega)
    rw [hc c h1] at h2; cases h2
theorem tw_text (s : List UInt8) (p : UInt8 → Bool) (a : Nat) : (s.take (a + tw s p a)).drop a = (s.drop a).takeWhile p := by
  rw [List.drop_take, Nat.add_sub_cancel_left]
  exact (List.prefix_iff_eq_take.1 (List.takeWhile_prefix p)).symm
def bl (s : List UInt8) (a : Nat) : Nat := a + tw s (fun c => c == 32) a
theorem bl_le {s : List UInt8} {a : Nat} (h : a ≤ s.length) : a ≤ bl s a ∧ bl s a ≤ s.length := ⟨by unfold bl; omega, tw_le _ h⟩
end Go.Proofs.YtpbjjhpihhnomaaGreatDoor

namespace Go.Proofs.YtpbjjhpihhnomaaGreatDoor
open Go Go.Abs
attribute [local irreducible] DrawW CallW RetW AC Does CmpW
set_option maxRecDepth 100000
variable {G : Globs}
structure Fnd where
  c0 : Bool
  c1 : Bool
  c2 : Bool
  c3 : Bool
  c4 : Bool
  c5 : Bool
def rro (ver : Nat) (s : List UInt8) (a n : Nat) (F : Fnd) : AObj := ⟨ver, 228, 9, [[.str s, .int .i64 a, .int .i64 n, .bool F.c0, .bool F.c1, .bool F.c2, .bool F.c3, .bool F.c4, .bool F.c5]]⟩
def rfault (r : Int × Nat) : AV := .iface 223 (.agg [.int .i64 r.1, .int .i64 r.2])
theorem rfail_does (e : Int) (a : Nat) : Does Tryz.prog G 192 [.int .i64 e, .int .i64 a] [] fun ae O => ae = .panic (rfault (e, a)) ∧ O = [] := by
  refine Does.body tab Tryz.func192 rfl rfl ?_
  refine gos ?_
  exact ⟨Nat.le_refl _, rfl, rfl⟩
theorem blanks_does (s : List UInt8) (a n : Nat) (F : Fnd) (ha : a ≤ s.length) (hs : s.length < 100000) (ver : Nat) :
    Does Tryz.prog G 229 [.ptr 0 ver 0 0] [some (rro ver s a n F)] fun ae O => ae = .ret (.tuple []) ∧ O = [some (rro ver s (bl s a) n F)] := by
  refine Does.body tab Tryz.func229 rfl rfl ?_
  refine gos ?_
  refine AC.loopC tab (fun f e h => ∃ k, s.length < f + (a + k) ∧ a + k ≤ s.length ∧ k ≤ tw s (fun c => c == 32) a ∧ e = [.ptr 0 ver 0 0] ++ List.replicate 30 .any ∧ h = [some (rro ver s (a + k) n F)]) (s.length + 1) ⟨_, fgts, 0, by omega, by omega, by omega, rfl, rfl⟩ ?_
  rintro f e h ⟨k, hf, hk, hkt, rfl, rfl⟩
  refine gos ?_
  refine DrawW.L ?_
  refine gos ?_
  by_cases hlt : a + k < s.length
  · obtain ⟨c, hc⟩ : ∃ c, s[a + k]? = some c := ⟨_, List.getElem?_eq_getElem hlt⟩
    refine CmpW.t (by simp; omega) ?_
    refine gos ?_
    refine And.intro (by omega) ⟨c, hc, ?_⟩
    refine gos ?_
    by_cases h32 : c = 32
    · subst h32
      refine CmpW.t (by simp) ?_
      refine gos ?_
      refine ⟨f - 1, _, 1, by omega, fgts, k + 1, by omega, by omega, tw_go hkt hc rfl, rfl, rfl⟩
    · refine CmpW.f (by simp; exact fun h => h32 (u8_of h rfl)) ?_
      refine gos ?_
      have : bl s a = a + k := by unfold bl; rw [← tw_stop hkt fun d hd => by rw [hc] at hd; cases hd; simpa using h32]
      rw [this]
      refine RetW.plain (by simp) ?_
      exact ⟨rfl, rfl⟩
  · refine CmpW.f (by simp; omega) ?_
    refine gos ?_
    have : bl s a = a + k := by unfold bl; rw [← tw_stop hkt fun d hd => by rw [List.getElem?_eq_none (by omega)] at hd; cases hd]
    rw [this]
    refine RetW.plain (by simp) ?_
    exact ⟨rfl, rfl⟩
def pk (s : List UInt8) (a : Nat) : Nat := match s[bl s a]? with | some c => c.toNat | none => 0
theorem peek_does (s : List UInt8) (a n : Nat) (F : Fnd) (ha : a ≤ s.length) (hs : s.length < 100000) (ver : Nat) :
    Does Tryz.prog G 189 [.ptr 0 ver 0 0] [some (rro ver s a n F)] fun ae O => ae = .ret (.int .u8 (pk s a)) ∧ O = [some (rro ver s (bl s a) n F)] := by
  refine Does.body tab Tryz.func189 rfl rfl ?_
  refine gos ?_
  refine CallW.meth 0 (blanks_does s a n F ha hs ver) rfl rfl rfl rfl rfl rfl ?_
  refine gos ?_
  refine DrawW.L ?_
  refine gos ?_
  have hb := bl_le ha
  by_cases hlt : bl s a < s.length
  · obtain ⟨c, hc⟩ : ∃ c, s[bl s a]? = some c := ⟨_, List.getElem?_eq_getElem hlt⟩
    refine CmpW.f (by simp; omega) ?_
    refine gos ?_
    refine DrawW.L ?_
    refine gos ?_
    refine And.intro (by omega) ⟨c, hc, ?_⟩
    refine gos ?_
    refine RetW.plain (by simp) ?_
    simp only [pk, hc]
    exact ⟨trivial, rfl⟩
  · refine CmpW.t (by simp; omega) ?_
    refine gos ?_
    refine RetW.plain (by simp) ?_
    simp only [pk, List.getElem?_eq_none (show s.length ≤ bl s a by omega)]
    exact ⟨rfl, rfl⟩
theorem take_does (s t : List UInt8) (a n : Nat) (F : Fnd) (ha : a ≤ s.length) (hs : s.length < 100000) (ver : Nat) :
    Does Tryz.prog G 191 [.ptr 0 ver 0 0, .str t] [some (rro ver s a n F)] fun ae O => ae = .ret (.bool (pre s (bl s a) t)) ∧ O = [some (rro ver s (if pre s (bl s a) t then bl s a + t.length else bl s a) n F)] := by
  refine Does.body tab Tryz.func191 rfl rfl ?_
  refine gos ?_
  refine CallW.meth 0 (blanks_does s a n F ha hs ver) rfl rfl rfl rfl rfl rfl ?_
  refine gos ?_
  refine DrawW.L ?_
  have hb := bl_le ha
  refine gos ?_
  refine And.intro (And.intro (by omega) (by omega)) ?_
  refine CallW.pure (HasPrefix_does G _ _) rfl rfl ?_
  have h' : t.isPrefixOf (s.drop (bl s a : Int).toNat) = pre s (bl s a) t := rfl
  rw [h']
  cases hp : pre s (bl s a) t with
  | true =>
    have hle : bl s a + t.length ≤ s.length := by
      by_cases h0 : t = []
      · subst h0; simpa using hb.2
      · exact pre_le hp h0
    refine gos ?_
    refine RetW.plain (by simp) ?_
    simp only [if_true]
    exact ⟨trivial, rfl⟩
  | false =>
    refine gos ?_
    refine RetW.plain (by simp) ?_
    exact ⟨rfl, rfl⟩
theorem want_does (s t : List UInt8) (a n : Nat) (F : Fnd) (ha : a ≤ s.length) (hs : s.length < 100000) (ver : Nat) :
    Does Tryz.prog G 232 [.ptr 0 ver 0 0, .str t] [some (rro ver s a n F)] fun ae O => match pre s (bl s a) t with
      | true => ae = .ret (.tuple []) ∧ O = [some (rro ver s (bl s a + t.length) n F)]
      | false => ae = .panic (rfault (1, bl s a)) := by
  refine Does.body tab Tryz.func232 rfl rfl ?_
  refine gos ?_
  refine CallW.meth 0 (take_does s t a n F ha hs ver) rfl rfl rfl rfl rfl rfl ?_
  cases hp : pre s (bl s a) t with
  | true =>
    simp only [if_true]
    refine gos ?_
    refine RetW.plain (by simp) ?_
    exact ⟨rfl, rfl⟩
  | false =>
    simp only [Bool.false_eq_true, if_false]
    refine gos ?_
    refine CallW.of0 (rfail_does 1 (bl s a)) rfl ?_
    rintro ae ⟨rfl, _⟩
    refine ⟨rfl, ?_⟩
    refine gos ?_
    exact ⟨by simp, rfl⟩
theorem run_does (s : List UInt8) (lo hi : UInt8) (a n : Nat) (F : Fnd) (ha : a ≤ s.length) (hs : s.length < 100000) (ver : Nat) :
    Does Tryz.prog G 261 [.ptr 0 ver 0 0, .int .u8 lo.toNat, .int .u8 hi.toNat] [some (rro ver s a n F)] fun ae O => ae = .ret (.int .i64 (tw s (fun c => lo ≤ c && c ≤ hi) a)) ∧ O = [some (rro ver s a n F)] := by
  refine Does.body tab Tryz.func261 rfl rfl ?_
  refine gos ?_
  refine AC.loopC tab (fun f e h => ∃ k : Nat, s.length < f + (a + k) ∧ a + k ≤ s.length ∧ k ≤ tw s (fun c => lo ≤ c && c ≤ hi) a ∧ e = [.ptr 0 ver 0 0, .int .u8 lo.toNat, .int .u8 hi.toNat, .any, .any, .any, .any, .int .i64 k] ++ List.replicate 45 .any ∧ h = [some (rro ver s a n F)]) (s.length + 1) ⟨_, fgts, 0, by omega, by omega, by omega, rfl, rfl⟩ ?_
  rintro f e h ⟨k, hf, hk, hkt, rfl, rfl⟩
  refine gos ?_
  refine DrawW.L ?_
  refine gos ?_
  have stop : (∀ d, s[a + k]? = some d → (lo ≤ d && d ≤ hi) = false) → k = tw s (fun c => lo ≤ c && c ≤ hi) a := tw_stop hkt
  by_cases hlt : a + k < s.length
  · obtain ⟨c, hc⟩ : ∃ c, s[a + k]? = some c := ⟨_, List.getElem?_eq_getElem hlt⟩
    refine CmpW.t (by simp; omega) ?_
    refine gos ?_
    refine And.intro (by omega) ⟨c, hc, ?_⟩
    refine gos ?_
    by_cases h1 : lo ≤ c
    · have h1' : lo.toNat ≤ c.toNat := h1
      refine CmpW.t (by simp; omega) ?_
      refine gos ?_
      refine And.intro (by omega) ⟨c, hc, ?_⟩
      refine gos ?_
      by_cases h2 : c ≤ hi
      · have h2' : c.toNat ≤ hi.toNat := h2
        refine CmpW.t (by simp; omega) ?_
        refine gos ?_
        refine ⟨f - 1, _, 1, by omega, fgts, k + 1, by omega, by omega, tw_go hkt hc (by simp [h1, h2]), rfl, rfl⟩
      · have h2' : ¬ c.toNat ≤ hi.toNat := h2
        refine CmpW.f (by simp; omega) ?_
        refine gos ?_
        rw [← stop fun d hd => by rw [hc] at hd; cases hd; simp [h2]]
        refine RetW.plain (by simp) ?_
        exact ⟨rfl, rfl⟩
    · have h1' : ¬ lo.toNat ≤ c.toNat := h1
      refine CmpW.f (by simp; omega) ?_
      refine gos ?_
      rw [← stop fun d hd => by rw [hc] at hd; cases hd; simp [h1]]
      refine RetW.plain (by simp) ?_
      exact ⟨rfl, rfl⟩
  · refine CmpW.f (by simp; omega) ?_
    refine gos ?_
    rw [← stop fun d hd => by rw [List.getElem?_eq_none (by omega)] at hd; cases hd]
    refine RetW.plain (by simp) ?_
    exact ⟨rfl, rfl⟩
def wd (s : List UInt8) (a : Nat) : List UInt8 := (s.drop (bl s a)).takeWhile fun c => 97 ≤ c && c ≤ 122
theorem word_does (s : List UInt8) (a n : Nat) (F : Fnd) (ha : a ≤ s.length) (hs : s.length < 100000) (ver : Nat) :
    Does Tryz.prog G 230 [.ptr 0 ver 0 0] [some (rro ver s a n F)] fun ae O => ae = .ret (.str (wd s a)) ∧ O = [some (rro ver s (bl s a) n F)] := by
  refine Does.body tab Tryz.func230 rfl rfl ?_
  refine gos ?_
  refine CallW.meth 0 (blanks_does s a n F ha hs ver) rfl rfl rfl rfl rfl rfl ?_
  refine gos ?_
  have hb := bl_le ha
  have hw := tw_le (fun c => (97 : UInt8) ≤ c && c ≤ 122) hb.2
  have hr := run_does (G := G) s 97 122 (bl s a) n F hb.2 hs ver
  refine DrawW.P (.take 0 (.take 1 (.take 2 (.take 4 (.take 5 (.take 6 (.take 8 (.take 9 (.take 10 (.take 12 (.fork (.cons 3 (.fork (.cons 7 (.fork (.cons 11 (.take 13 (.take 14 (.take 15 (.take 16 .done)))) (.cons 13 (.take 11 (.take 14 (.take 15 (.take 16 .done)))) .nil))) (.cons 11 (.fork (.cons 7 (.take 13 (.take 14 (.take 15 (.take 16 .done)))) (.cons 13 (.take 7 (.take 14 (.take 15 (.take 16 .done)))) .nil))) (.cons 13 (.take 7 (.take 11 (.take 14 (.take 15 (.take 16 .done))))) .nil)))) (.cons 7 (.fork (.cons 3 (.fork (.cons 11 (.take 13 (.take 14 (.take 15 (.take 16 .done)))) (.cons 13 (.take 11 (.take 14 (.take 15 (.take 16 .done)))) .nil))) (.cons 11 (.fork (.cons 3 (.take 13 (.take 14 (.take 15 (.take 16 .done)))) (.cons 13 (.take 3 (.take 14 (.take 15 (.take 16 .done)))) .nil))) (.cons 13 (.take 3 (.take 11 (.take 14 (.take 15 (.take 16 .done))))) .nil)))) (.cons 11 (.fork (.cons 3 (.fork (.cons 7 (.take 13 (.take 14 (.take 15 (.take 16 .done)))) (.cons 13 (.take 7 (.take 14 (.take 15 (.take 16 .done)))) .nil))) (.cons 7 (.fork (.cons 3 (.take 13 (.take 14 (.take 15 (.take 16 .done)))) (.cons 13 (.take 3 (.take 14 (.take 15 (.take 16 .done)))) .nil))) (.cons 13 (.take 3 (.take 7 (.take 14 (.take 15 (.take 16 .done))))) .nil)))) (.cons 13 (.take 3 (.take 7 (.take 11 (.take 14 (.take 15 (.take 16 .done)))))) .nil))))))))))))))) ?_
  (repeat' (first | exact trivial | refine gon ?_ | refine CallW.meth 0 hr rfl rfl rfl rfl rfl rfl ?_ | refine And.intro (And.intro (by omega) (And.intro (by omega) (by omega))) ?_ | refine And.intro ?_ ?_))
  all_goals
    refine RetW.plain (by simp) ?_
    refine ⟨?_, rfl⟩
    rw [show ((bl s a : Int) + (tw s (fun c => (97 : UInt8) ≤ c && c ≤ 122) (bl s a) : Int)).toNat = bl s a + tw s (fun c => (97 : UInt8) ≤ c && c ≤ 122) (bl s a) by omega, Int.toNat_natCast, tw_text]
    rfl
end Go.Proofs.YtpbjjhpihhnomaaGreatDoor
