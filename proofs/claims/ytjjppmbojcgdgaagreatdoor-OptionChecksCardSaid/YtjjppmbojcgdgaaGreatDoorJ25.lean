/- Things by name. -/
import Derived.Test.YtjjppmbojcgdgaaGreatDoorJ24
import Derived.Test.YtjjppmbojcgdgaaGreatDoorJ18
import Derived.Test.YtjjppmbojcgdgaaGreatDoorJ20
set_option linter.unusedVariables false
set_option linter.unusedSimpArgs false
set_option maxRecDepth 100000
set_option maxHeartbeats 4000000

namespace Go.Proofs.YtjjppmbojcgdgaaGreatDoor
open Go Go.Abs
attribute [local irreducible] DrawW CallW RetW AC Does CmpW
variable {G : Globs}
structure PD where
  a : List (List AV)
  b : List (List AV)
  c : List (List AV)
  d : List (List AV)
  two : Bool
  N : Num
structure CD where
  z : Nat
  nb : Bool
  p : PD
def PD.cells (x : PD) : List AV := patCells ⟨.fsl x.a, .fsl x.b, .fsl x.c, .fsl x.d⟩ x.two x.N
def CD.cells (x : CD) : List AV := .int .i64 (x.z : Int) :: .bool x.nb :: x.p.cells
def pd0 : PD := ⟨[], [], [], [], false, Num.zero⟩
def cd0 : CD := ⟨0, false, pd0⟩
def BC.hs {α : Type} (b : BC α) : List AV := [.bool b.h0, .bool b.h1, .bool b.h2, .bool b.h3, .bool b.h4, .bool b.h5]
def bcC {α : Type} (enc : α → List AV) (b : BC α) : List AV := enc b.l0 ++ enc b.l1 ++ enc b.l2 ++ enc b.l3 ++ enc b.l4 ++ enc b.l5 ++ b.hs
theorem cat6 {c : Int} (h : 0 ≤ c ∧ c ≤ 5) : c = 0 ∨ c = 1 ∨ c = 2 ∨ c = 3 ∨ c = 4 ∨ c = 5 := by omega
theorem getC_out {α : Type} {b : BC α} {c : Int} (h : ¬ (0 ≤ c ∧ c ≤ 5)) : getC b c = b.l5 := by simp [getC, hasC, h]
theorem putC_out {α : Type} {b : BC α} {c : Int} {x : α} (h : ¬ (0 ≤ c ∧ c ≤ 5)) : putC b c x = b := by simp [putC, h]
theorem StrGet_does (b : BC (List UInt8)) (c : Int) : Does Tryz.prog G 160 [.fptr (bcC encS1 b), .int .i64 c] [] fun ae _ => ae = .ret (.str (getC b c)) := by
  refine Does.body tab Tryz.func160 rfl rfl ?_
  by_cases hc : 0 ≤ c ∧ c ≤ 5
  case neg =>
    rw [getC_out hc]
    refine gos ?_
    by_cases h0 : c < 0
    · refine CmpW.T ?_
      refine gos ?_
      refine RetW.plain (by simp) ?_
      rfl
    · refine CmpW.N ?_
      refine gos ?_
      refine CmpW.T ?_
      refine gos ?_
      refine RetW.plain (by simp) ?_
      rfl
  obtain ⟨l0, l1, l2, l3, l4, l5, h0, h1, h2, h3, h4, h5⟩ := b
  rcases cat6 hc with rfl | rfl | rfl | rfl | rfl | rfl
  · cases h0
    all_goals
      refine gos ?_
      refine RetW.plain (by simp) ?_
      rfl
  · cases h1
    all_goals
      refine gos ?_
      refine RetW.plain (by simp) ?_
      rfl
  · cases h2
    all_goals
      refine gos ?_
      refine RetW.plain (by simp) ?_
      rfl
  · cases h3
    all_goals
      refine gos ?_
      refine RetW.plain (by simp) ?_
      rfl
  · cases h4
    all_goals
      refine gos ?_
      refine RetW.plain (by simp) ?_
      rfl
  · cases h5
    all_goals
      refine gos ?_
      refine RetW.plain (by simp) ?_
      rfl
theorem StrPut_does (v : Nat) (b : BC (List UInt8)) (c : Int) (x : List UInt8) : Does Tryz.prog G 166 [.ptr 0 v 0 0, .int .i64 c, .str x] [some ⟨v, 273, 12, [bcC encS1 b]⟩] fun ae O => ae = .ret (.tuple []) ∧ O = [some ⟨v, 273, 12, [bcC encS1 (putC b c x)]⟩] := by
  refine Does.body tab Tryz.func166 rfl rfl ?_
  by_cases hc : 0 ≤ c ∧ c ≤ 5
  case neg =>
    rw [putC_out hc]
    refine gos ?_
    by_cases h0 : 0 ≤ c
    · refine CmpW.T ?_
      refine gos ?_
      refine CmpW.N ?_
      refine gos ?_
      refine RetW.plain (by simp) ?_
      exact ⟨rfl, rfl⟩
    · refine CmpW.N ?_
      refine gos ?_
      refine RetW.plain (by simp) ?_
      exact ⟨rfl, rfl⟩
  obtain ⟨l0, l1, l2, l3, l4, l5, h0, h1, h2, h3, h4, h5⟩ := b
  rcases cat6 hc with rfl | rfl | rfl | rfl | rfl | rfl
  all_goals
    refine gos ?_
    refine DrawW.P (.take 0 (.take 1 (.take 2 (.take 3 (.take 4 (.take 5 (.take 6 (.take 7 (.take 9 (.take 10 (.take 8 (.take 11 (.take 12 .done))))))))))))) ?_
    refine gos ?_
    refine RetW.plain (by simp) ?_
    exact ⟨rfl, rfl⟩
def encB (x : List (List AV) × List (List AV)) : List AV := [.fsl x.1, .fsl x.2]
theorem BraGet_does (b : BC (List (List AV) × List (List AV))) (c : Int) : Does Tryz.prog G 256 [.fptr (bcC encB b), .int .i64 c] [] fun ae _ => ae = .ret (.agg (encB (getC b c))) := by
  refine Does.body tab Tryz.func256 rfl rfl ?_
  by_cases hc : 0 ≤ c ∧ c ≤ 5
  case neg =>
    rw [getC_out hc]
    refine gos ?_
    intro v1
    refine gos ?_
    by_cases h0 : c < 0
    · refine CmpW.T ?_
      refine gos ?_
      refine RetW.plain (by simp) ?_
      rfl
    · refine CmpW.N ?_
      refine gos ?_
      refine CmpW.T ?_
      refine gos ?_
      refine RetW.plain (by simp) ?_
      rfl
  obtain ⟨l0, l1, l2, l3, l4, l5, h0, h1, h2, h3, h4, h5⟩ := b
  rcases cat6 hc with rfl | rfl | rfl | rfl | rfl | rfl
  · cases h0
    all_goals
      refine gos ?_
      intro v1
      refine gos ?_
      refine RetW.plain (by simp) ?_
      rfl
  · cases h1
    all_goals
      refine gos ?_
      intro v1
      refine gos ?_
      refine RetW.plain (by simp) ?_
      rfl
  · cases h2
    all_goals
      refine gos ?_
      intro v1
      refine gos ?_
      refine RetW.plain (by simp) ?_
      rfl
  · cases h3
    all_goals
      refine gos ?_
      intro v1
      refine gos ?_
      refine RetW.plain (by simp) ?_
      rfl
  · cases h4
    all_goals
      refine gos ?_
      intro v1
      refine gos ?_
      refine RetW.plain (by simp) ?_
      rfl
  · cases h5
    all_goals
      refine gos ?_
      intro v1
      refine gos ?_
      refine RetW.plain (by simp) ?_
      rfl
theorem BraPut_does (v : Nat) (b : BC (List (List AV) × List (List AV))) (c : Int) (x : List (List AV) × List (List AV)) : Does Tryz.prog G 163 [.ptr 0 v 0 0, .int .i64 c, .agg (encB x)] [some ⟨v, 267, 18, [bcC encB b]⟩] fun ae O => ae = .ret (.tuple []) ∧ O = [some ⟨v, 267, 18, [bcC encB (putC b c x)]⟩] := by
  refine Does.bodyA tab Tryz.func163 rfl rfl ?_
  refine AC.step tab ?_
  refine gos ?_
  intro v1
  refine gos ?_
  by_cases hc : 0 ≤ c ∧ c ≤ 5
  case neg =>
    rw [putC_out hc]
    refine AC.go tab ?_
    refine gos ?_
    by_cases h0 : 0 ≤ c
    · refine CmpW.T ?_
      refine gos ?_
      refine CmpW.N ?_
      refine gos ?_
      refine RetW.plain (by simp) ?_
      exact ⟨rfl, rfl⟩
    · refine CmpW.N ?_
      refine gos ?_
      refine RetW.plain (by simp) ?_
      exact ⟨rfl, rfl⟩
  obtain ⟨l0, l1, l2, l3, l4, l5, h0, h1, h2, h3, h4, h5⟩ := b
  rcases cat6 hc with rfl | rfl | rfl | rfl | rfl | rfl
  all_goals
    refine AC.go tab ?_
    refine gos ?_
    refine DrawW.P (.take 0 (.take 1 (.take 2 (.take 3 (.take 4 (.take 5 (.take 6 (.take 7 (.take 9 (.take 10 (.take 8 (.take 11 (.take 12 .done))))))))))))) ?_
    refine gos ?_
    refine RetW.plain (by simp) ?_
    exact ⟨rfl, rfl⟩
theorem CpaGet_does (b : BC (CD)) (c : Int) : Does Tryz.prog G 123 [.fptr (bcC CD.cells b), .int .i64 c] [] fun ae _ => ae = .ret (.agg (getC b c).cells) := by
  refine Does.body tab Tryz.func123 rfl rfl ?_
  by_cases hc : 0 ≤ c ∧ c ≤ 5
  case neg =>
    rw [getC_out hc]
    refine gos ?_
    intro v1
    refine gos ?_
    by_cases h0 : c < 0
    · refine CmpW.T ?_
      refine gos ?_
      refine RetW.plain (by simp) ?_
      rfl
    · refine CmpW.N ?_
      refine gos ?_
      refine CmpW.T ?_
      refine gos ?_
      refine RetW.plain (by simp) ?_
      rfl
  obtain ⟨l0, l1, l2, l3, l4, l5, h0, h1, h2, h3, h4, h5⟩ := b
  rcases cat6 hc with rfl | rfl | rfl | rfl | rfl | rfl
  · cases h0
    all_goals
      refine gos ?_
      intro v1
      refine gos ?_
      refine RetW.plain (by simp) ?_
      rfl
  · cases h1
    all_goals
      refine gos ?_
      intro v1
      refine gos ?_
      refine RetW.plain (by simp) ?_
      rfl
  · cases h2
    all_goals
      refine gos ?_
      intro v1
      refine gos ?_
      refine RetW.plain (by simp) ?_
      rfl
  · cases h3
    all_goals
      refine gos ?_
      intro v1
      refine gos ?_
      refine RetW.plain (by simp) ?_
      rfl
  · cases h4
    all_goals
      refine gos ?_
      intro v1
      refine gos ?_
      refine RetW.plain (by simp) ?_
      rfl
  · cases h5
    all_goals
      refine gos ?_
      intro v1
      refine gos ?_
      refine RetW.plain (by simp) ?_
      rfl
theorem CpaPut_does (v : Nat) (b : BC (CD)) (c : Int) (x : CD) : Does Tryz.prog G 226 [.ptr 0 v 0 0, .int .i64 c, .agg x.cells] [some ⟨v, 309, 84, [bcC CD.cells b]⟩] fun ae O => ae = .ret (.tuple []) ∧ O = [some ⟨v, 309, 84, [bcC CD.cells (putC b c x)]⟩] := by
  refine Does.bodyA tab Tryz.func226 rfl rfl ?_
  refine AC.step tab ?_
  refine gos ?_
  intro v1
  refine gos ?_
  by_cases hc : 0 ≤ c ∧ c ≤ 5
  case neg =>
    rw [putC_out hc]
    refine AC.go tab ?_
    refine gos ?_
    by_cases h0 : 0 ≤ c
    · refine CmpW.T ?_
      refine gos ?_
      refine CmpW.N ?_
      refine gos ?_
      refine RetW.plain (by simp) ?_
      exact ⟨rfl, rfl⟩
    · refine CmpW.N ?_
      refine gos ?_
      refine RetW.plain (by simp) ?_
      exact ⟨rfl, rfl⟩
  obtain ⟨l0, l1, l2, l3, l4, l5, h0, h1, h2, h3, h4, h5⟩ := b
  rcases cat6 hc with rfl | rfl | rfl | rfl | rfl | rfl
  all_goals
    refine AC.go tab ?_
    refine gos ?_
    refine DrawW.P (.take 0 (.take 1 (.take 2 (.take 3 (.take 4 (.take 5 (.take 6 (.take 7 (.take 9 (.take 10 (.take 8 (.take 11 (.take 12 .done))))))))))))) ?_
    refine gos ?_
    refine RetW.plain (by simp) ?_
    exact ⟨rfl, rfl⟩
end Go.Proofs.YtjjppmbojcgdgaaGreatDoor

namespace Go.Proofs.YtjjppmbojcgdgaaGreatDoor
open Go Go.Abs
set_option linter.unusedVariables false
set_option linter.unusedSimpArgs false
theorem bl_irrefl : ∀ x : List UInt8, Op.bytesLess x x = false
  | [] => rfl
  | a :: x => by
    have := bl_irrefl x
    simp [Op.bytesLess, this]
theorem bl_trans : ∀ {x y z : List UInt8}, Op.bytesLess x y = true → Op.bytesLess y z = true → Op.bytesLess x z = true
  | _, _, [], _, h => by rename_i y _; cases y <;> simp [Op.bytesLess] at h
  | _, [], _ :: _, h, _ => by rename_i x _ _; cases x <;> simp [Op.bytesLess] at h
  | [], _ :: _, _ :: _, _, _ => rfl
  | a :: x, b :: y, c :: z, h1, h2 => by
    simp only [Op.bytesLess, Bool.or_eq_true, Bool.and_eq_true, decide_eq_true_eq, beq_iff_eq, UInt8.lt_iff_toNat_lt] at *
    rcases h1 with h1 | ⟨rfl, h1⟩
    · rcases h2 with h2 | ⟨rfl, h2⟩
      · exact .inl (Nat.lt_trans h1 h2)
      · exact .inl h1
    · rcases h2 with h2 | ⟨rfl, h2⟩
      · exact .inl h2
      · exact .inr ⟨rfl, bl_trans h1 h2⟩
def Ris (l : List (List UInt8)) : Prop := l.Pairwise fun x y => Op.bytesLess x y = true
theorem ris_of {l : List (List UInt8)} (h : ∀ (i : Nat) (x y : List UInt8), l[i]? = some x → l[i + 1]? = some y → Op.bytesLess x y = true) : Ris l := by
  induction l with
  | nil => exact List.Pairwise.nil
  | cons a l ih =>
    have ih := ih (fun i x y hx hy => h (i + 1) x y (by simpa using hx) (by simpa using hy))
    refine List.pairwise_cons.2 ⟨?_, ih⟩
    cases l with
    | nil => intro y hy; cases hy
    | cons b l =>
      have hab := h 0 a b rfl rfl
      intro y hy
      rcases List.mem_cons.1 hy with rfl | hy
      · exact hab
      · exact bl_trans hab ((List.pairwise_cons.1 ih).1 y hy)
theorem ris_inj {α : Type} {f : α → List UInt8} : ∀ {l : List α}, Ris (l.map f) → ∀ x ∈ l, ∀ y ∈ l, f x = f y → x = y
  | [], _, x, hx, _, _, _ => by cases hx
  | a :: l, h, x, hx, y, hy, e => by
    obtain ⟨h1, h2⟩ := List.pairwise_cons.1 h
    rcases List.mem_cons.1 hx with hx | hx <;> rcases List.mem_cons.1 hy with hy | hy
    · rw [hx, hy]
    · have := h1 (f y) (List.mem_map.2 ⟨y, hy, rfl⟩)
      rw [← e, hx, bl_irrefl] at this; cases this
    · have := h1 (f x) (List.mem_map.2 ⟨x, hx, rfl⟩)
      rw [e, hy, bl_irrefl] at this; cases this
    · exact ris_inj h2 x hx y hy e
theorem look_put {x y : List UInt8} {c : AV} : ∀ {es : List (List AV)}, keysOK es = true → lookM (putM es x c) y = if x = y then some c else lookM es y
  | [], _ => by by_cases h : x = y <;> simp [putM, lookM, h]
  | [.str k, v] :: es, h => by
    have ih := look_put (x := x) (y := y) (c := c) (es := es) (by simpa [keysOK] using h)
    simp only [putM]
    by_cases h1 : k = x
    · subst h1
      rw [if_pos rfl]
      by_cases h2 : k = y <;> simp [lookM, h2]
    · rw [if_neg h1]
      by_cases h2 : k = y
      · subst h2
        have : ¬ x = k := fun h3 => h1 h3.symm
        simp [lookM, this]
      · simp only [lookM, if_neg h2]
        exact ih
def mapG {α : Type} (key : α → List UInt8) (val : α → AV) : List (List AV) → List α → List (List AV)
  | es, [] => es
  | es, x :: l => mapG key val (putM es (key x) (val x)) l
theorem mapG_ok {α : Type} (key : α → List UInt8) (val : α → AV) : ∀ (l : List α) (es : List (List AV)), keysOK es = true → keysOK (mapG key val es l) = true
  | [], _, h => h
  | x :: l, es, h => mapG_ok key val l _ (keysOK_putM _ _ h)
theorem mapG_none {α : Type} (key : α → List UInt8) (val : α → AV) (s : List UInt8) : ∀ (l : List α) (es : List (List AV)), keysOK es = true → (∀ x ∈ l, key x ≠ s) → lookM (mapG key val es l) s = lookM es s
  | [], _, _, _ => rfl
  | x :: l, es, h, hn => by
    rw [mapG, mapG_none key val s l _ (keysOK_putM _ _ h) (fun y hy => hn y (by simp [hy])), look_put h, if_neg (hn x (by simp))]
theorem mapG_some {α : Type} (key : α → List UInt8) (val : α → AV) {a : α} : ∀ (l : List α) (es : List (List AV)), keysOK es = true → a ∈ l → (∀ x ∈ l, key x = key a → x = a) → lookM (mapG key val es l) (key a) = some (val a)
  | [], _, _, ha, _ => by cases ha
  | x :: l, es, h, ha, hu => by
    rw [mapG]
    by_cases hl : a ∈ l
    · exact mapG_some key val l _ (keysOK_putM _ _ h) hl (fun y hy => hu y (by simp [hy]))
    · have hx : x = a := ((List.mem_cons.1 ha).resolve_right hl).symm
      subst hx
      rw [mapG_none key val _ l _ (keysOK_putM _ _ h) (fun y hy e => hl (hu y (by simp [hy]) e ▸ hy)), look_put h, if_pos rfl]
end Go.Proofs.YtjjppmbojcgdgaaGreatDoor
