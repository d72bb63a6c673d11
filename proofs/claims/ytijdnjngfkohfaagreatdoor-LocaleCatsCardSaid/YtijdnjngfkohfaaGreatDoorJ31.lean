/- Texts, rows, currencies, units, read. -/
import Derived.Test.YtijdnjngfkohfaaGreatDoorJ17
import Derived.Test.YtijdnjngfkohfaaGreatDoorJ02
import Derived.Test.YtijdnjngfkohfaaGreatDoorJ27
import Derived.Test.YtijdnjngfkohfaaGreatDoorJ18
import Derived.Test.YtijdnjngfkohfaaGreatDoorJ30
set_option linter.unusedVariables false
set_option linter.unusedSimpArgs false
set_option maxRecDepth 100000
set_option maxHeartbeats 4000000

namespace Go.Proofs.YtijdnjngfkohfaaGreatDoor
open Go Go.Abs
attribute [local irreducible] DrawW CallW RetW AC Does CmpW
variable {G : Globs}
def oneT (s : List UInt8) : List TTxt := [⟨5, s⟩]
def twoT (s t : List UInt8) : List TTxt := [⟨1, s⟩, ⟨5, t⟩]
theorem One_does (s : List UInt8) : Does Tryz.prog G 61 [.str s] [] fun ae _ => ae = .ret (txtL (oneT s)) := by
  refine Does.body tab Tryz.func61 rfl rfl ?_
  (repeat (first | refine gof ?_ | refine fun (vv : Nat) => ?_))
  refine RetW.wk (r' := txtL (oneT s)) (by simp) ?_ (Wk.row (k := 0) (i := 0) (o := ⟨vv, 127, 2, [[.int .i64 5, .str s]]⟩) rfl rfl rfl rfl) ?_ <;> rfl
theorem Two_does (s t : List UInt8) : Does Tryz.prog G 63 [.str s, .str t] [] fun ae _ => ae = .ret (txtL (twoT s t)) := by
  refine Does.body tab Tryz.func63 rfl rfl ?_
  (repeat (first | refine gof ?_ | refine fun (vv : Nat) => ?_))
  refine RetW.wk (r' := txtL (twoT s t)) (by simp) ?_ (Wk.row (k := 0) (i := 0) (o := ⟨vv, 127, 2, [[.int .i64 1, .str s], [.int .i64 5, .str t]]⟩) rfl rfl rfl rfl) ?_ <;> rfl
def plainD : TDig := ⟨[48], [49], [50], [51], [52], [53], [54], [55], [56], [57]⟩
theorem Plain_does : Does Tryz.prog G 62 [] [] fun ae _ => ae = .ret (.agg plainD.cells) := by
  refine Does.bodyA tab Tryz.func62 rfl rfl ?_
  refine AC.step tab ?_
  refine gos ?_
  intro v0
  refine gos ?_
  refine AC.step tab ?_
  refine gos ?_
  intro v1
  refine gos ?_
  refine AC.cutF tab (fun e h => e = [.ptr 0 v0 0 0, .ptr 1 v1 0 0] ++ List.replicate 12 .any ∧ h = [some ⟨v0, 54, 10, [[.str [], .str [], .str [], .str [], .str [], .str [], .str [], .str [], .str [], .str []]]⟩, some ⟨v1, 54, 10, [plainD.cells]⟩]) ?_ ?_
  · refine gos ?_
    refine AC.rounds tab 11 ?_
    refine gos ?_
    exact ⟨_, 2, fgts, rfl, rfl⟩
  rintro e h ⟨rfl, rfl⟩
  refine AC.go tab ?_
  refine gos ?_
  refine RetW.plain (by simp) ?_
  rfl
end Go.Proofs.YtijdnjngfkohfaaGreatDoor

namespace Go.Proofs.YtijdnjngfkohfaaGreatDoor
open Go Go.Abs
attribute [local irreducible] DrawW CallW RetW AC Does CmpW
variable {G : Globs}
def ptP (x : TTxt) : Bool := decide (0 ≤ x.cat) && decide (x.text.length ≤ 200)
def ptxtB (l : List TTxt) : Bool := l.all ptP && decide (l.length ≤ 20)
def txtWide (l : List TTxt) : Prop := l.length ≤ 140737488355328 ∧ ∀ x ∈ l, x.text.length ≤ 140737488355328
theorem ptexts_does (l : List TTxt) (hw : txtWide l) : Does Tryz.prog G 104 [txtL l] [] fun ae _ => ae = .ret (.bool (ptxtB l)) := by
  obtain ⟨hl, hx2⟩ := hw
  have ll : (l.map encT).length = l.length := by simp
  refine Does.bodyA tab Tryz.func104 rfl rfl ?_
  refine AC.step tab ?_
  refine gos ?_
  refine AC.cutF tab (fun e h => l.all ptP = true ∧ e = [txtL l] ++ List.replicate 23 .any ∧ h = []) ?_ ?_
  · refine gos ?_
    rw [ll]
    refine AC.loopC tab (fun f e h => ∃ (i : Nat), f + i = l.length + 1 ∧ i ≤ l.length ∧ l.all ptP = (l.drop i).all ptP ∧ e = [txtL l, .any, .any, .any, .any, .fsl (l.map encT), .int .i64 l.length, .int .i64 i] ++ List.replicate 16 .any ∧ h = [])
      (l.length + 1) ⟨_, fgts, 0, by omega, by omega, rfl, rfl, rfl⟩ ?_
    rintro f e h ⟨i, hf, hi, hF, rfl, rfl⟩
    refine gos ?_
    by_cases hlt : i < l.length
    · obtain ⟨x, hx⟩ : ∃ x, l[i]? = some x := ⟨_, List.getElem?_eq_getElem hlt⟩
      rw [drop_cons' hx, List.all_cons] at hF
      have hb := hx2 x (List.mem_of_getElem? hx)
      refine CmpW.T ?_
      refine gos ?_
      refine And.intro (encT_two l) (And.intro (by omega) ⟨encT x, map_get hx, ?_⟩)
      (repeat (first | refine gof ?_ | refine fun (vv : Nat) => ?_))
      by_cases hc : x.cat < 0
      · refine CmpW.T ?_
        refine gos ?_
        refine RetW.plain (by simp) ?_
        simp [ptxtB, hF, ptP, show ¬ 0 ≤ x.cat by omega]
      refine CmpW.N ?_
      refine gos ?_
      by_cases hd : x.text.length ≤ 200
      · refine CmpW.N ?_
        refine gos ?_
        exact ⟨f - 1, _, 0, by omega, fgts, i + 1, by omega, by omega, by rw [hF]; simp [ptP, hd, show 0 ≤ x.cat by omega], rfl, rfl⟩
      · refine CmpW.T ?_
        refine gos ?_
        refine RetW.plain (by simp) ?_
        simp [ptxtB, hF, ptP, hd]
    · refine CmpW.N ?_
      rw [List.drop_of_length_le (by omega)] at hF
      refine gos ?_
      exact ⟨_, 0, fgts, hF, rfl, rfl⟩
  rintro e h ⟨hF, rfl, rfl⟩
  refine AC.go tab ?_
  refine gos ?_
  rw [ll]
  refine CmpW.s ?_
  refine gos ?_
  refine RetW.plain (by simp) ?_
  simp [ptxtB, hF]
  try omega
def prP (r : TRow) : Bool := decide (0 ≤ r.mag) && ptxtB r.texts
def prowB (l : List TRow) : Bool := l.all prP && decide (l.length ≤ 20)
def rowWide (l : List TRow) : Prop := l.length ≤ 140737488355328 ∧ ∀ r ∈ l, txtWide r.texts
theorem prows_does (l : List TRow) (hw : rowWide l) : Does Tryz.prog G 103 [rowL l] [] fun ae _ => ae = .ret (.bool (prowB l)) := by
  obtain ⟨hl, hx2⟩ := hw
  have ll : (l.map encR).length = l.length := by simp
  refine Does.bodyA tab Tryz.func103 rfl rfl ?_
  refine AC.step tab ?_
  refine gos ?_
  refine AC.cutF tab (fun e h => l.all prP = true ∧ e = [rowL l] ++ List.replicate 23 .any ∧ h = []) ?_ ?_
  · refine gos ?_
    rw [ll]
    refine AC.loopC tab (fun f e h => ∃ (i : Nat), f + i = l.length + 1 ∧ i ≤ l.length ∧ l.all prP = (l.drop i).all prP ∧ e = [rowL l, .any, .any, .any, .any, .fsl (l.map encR), .int .i64 l.length, .int .i64 i] ++ List.replicate 16 .any ∧ h = [])
      (l.length + 1) ⟨_, fgts, 0, by omega, by omega, rfl, rfl, rfl⟩ ?_
    rintro f e h ⟨i, hf, hi, hF, rfl, rfl⟩
    refine gos ?_
    by_cases hlt : i < l.length
    · obtain ⟨x, hx⟩ : ∃ x, l[i]? = some x := ⟨_, List.getElem?_eq_getElem hlt⟩
      rw [drop_cons' hx, List.all_cons] at hF
      have hb := hx2 x (List.mem_of_getElem? hx)
      refine CmpW.T ?_
      refine gos ?_
      refine And.intro (encR_two l) (And.intro (by omega) ⟨encR x, map_get hx, ?_⟩)
      (repeat (first | refine gof ?_ | refine fun (vv : Nat) => ?_))
      by_cases hc : x.mag < 0
      · refine CmpW.T ?_
        refine gos ?_
        refine RetW.plain (by simp) ?_
        simp [prowB, hF, prP, show ¬ 0 ≤ x.mag by omega]
      refine CmpW.N ?_
      refine gos ?_
      refine CallW.pure (ptexts_does x.texts hb) rfl rfl ?_
      cases hd : ptxtB x.texts with
      | true =>
        refine gos ?_
        exact ⟨f - 1, _, 0, by omega, fgts, i + 1, by omega, by omega, by rw [hF]; simp [prP, hd, show 0 ≤ x.mag by omega], rfl, rfl⟩
      | false =>
        refine gos ?_
        refine RetW.plain (by simp) ?_
        simp [prowB, hF, prP, hd]
    · refine CmpW.N ?_
      rw [List.drop_of_length_le (by omega)] at hF
      refine gos ?_
      exact ⟨_, 0, fgts, hF, rfl, rfl⟩
  rintro e h ⟨hF, rfl, rfl⟩
  refine AC.go tab ?_
  refine gos ?_
  rw [ll]
  refine CmpW.s ?_
  refine gos ?_
  refine RetW.plain (by simp) ?_
  simp [prowB, hF]
  try omega
end Go.Proofs.YtijdnjngfkohfaaGreatDoor

namespace Go.Proofs.YtijdnjngfkohfaaGreatDoor
open Go Go.Abs
set_option linter.unusedVariables false
set_option linter.unusedSimpArgs false
theorem bl_irrefl : ∀ x : List UInt8, Op.bytesLess x x = false
  | [] => rfl
  | a :: x => by
    have := bl_irrefl x
    simp [Op.bytesLess, this]
theorem bl_trans : ∀ {x y z : List UInt8}, Op.bytesLess x y = true → Op.bytesLess y z = true → Op.bytesLess x z = true
  | _, _, [], _, h => by rename_i y _; cases y <;> simp [Op.bytesLess] at h
  | _, [], _ :: _, h, _ => by rename_i x _ _; cases x <;> simp [Op.bytesLess] at h
  | [], _ :: _, _ :: _, _, _ => rfl
  | a :: x, b :: y, c :: z, h1, h2 => by
    simp only [Op.bytesLess, Bool.or_eq_true, Bool.and_eq_true, decide_eq_true_eq, beq_iff_eq, UInt8.lt_iff_toNat_lt] at *
    rcases h1 with h1 | ⟨rfl, h1⟩
    · rcases h2 with h2 | ⟨rfl, h2⟩
      · exact .inl (Nat.lt_trans h1 h2)
      · exact .inl h1
    · rcases h2 with h2 | ⟨rfl, h2⟩
      · exact .inl h2
      · exact .inr ⟨rfl, bl_trans h1 h2⟩
theorem bl_tri : ∀ {x y : List UInt8}, Op.bytesLess x y = false → Op.bytesLess y x = false → x = y
  | [], [], _, _ => rfl
  | [], _ :: _, h, _ => by simp [Op.bytesLess] at h
  | _ :: _, [], _, h => by simp [Op.bytesLess] at h
  | a :: x, b :: y, h1, h2 => by
    simp only [Op.bytesLess, Bool.or_eq_false_iff, Bool.and_eq_false_iff, decide_eq_false_iff_not, beq_eq_false_iff_ne, UInt8.lt_iff_toNat_lt] at h1 h2
    have e : a = b := UInt8.toNat_inj.1 (by omega)
    subst e
    have h3 := h1.2.resolve_left (by simp)
    have h4 := h2.2.resolve_left (by simp)
    rw [bl_tri h3 h4]
theorem bl_asymm {x y : List UInt8} (h : Op.bytesLess x y = true) : Op.bytesLess y x = false := by
  cases h1 : Op.bytesLess y x with
  | false => rfl
  | true =>
    have h2 := bl_trans h h1
    rw [bl_irrefl] at h2
    cases h2
def Ris (l : List (List UInt8)) : Prop := l.Pairwise fun x y => Op.bytesLess x y = true
theorem ris_of {l : List (List UInt8)} (h : ∀ (i : Nat) (x y : List UInt8), l[i]? = some x → l[i + 1]? = some y → Op.bytesLess x y = true) : Ris l := by
  induction l with
  | nil => exact List.Pairwise.nil
  | cons a l ih =>
    have ih := ih (fun i x y hx hy => h (i + 1) x y (by simpa using hx) (by simpa using hy))
    refine List.pairwise_cons.2 ⟨?_, ih⟩
    cases l with
    | nil => intro y hy; cases hy
    | cons b l =>
      have hab := h 0 a b rfl rfl
      intro y hy
      rcases List.mem_cons.1 hy with rfl | hy
      · exact hab
      · exact bl_trans hab ((List.pairwise_cons.1 ih).1 y hy)
theorem ris_inj {α : Type} {f : α → List UInt8} : ∀ {l : List α}, Ris (l.map f) → ∀ x ∈ l, ∀ y ∈ l, f x = f y → x = y
  | [], _, x, hx, _, _, _ => by cases hx
  | a :: l, h, x, hx, y, hy, e => by
    obtain ⟨h1, h2⟩ := List.pairwise_cons.1 h
    rcases List.mem_cons.1 hx with hx | hx <;> rcases List.mem_cons.1 hy with hy | hy
    · rw [hx, hy]
    · have := h1 (f y) (List.mem_map.2 ⟨y, hy, rfl⟩)
      rw [← e, hx, bl_irrefl] at this; cases this
    · have := h1 (f x) (List.mem_map.2 ⟨x, hx, rfl⟩)
      rw [e, hy, bl_irrefl] at this; cases this
    · exact ris_inj h2 x hx y hy e
theorem look_put {x y : List UInt8} {c : AV} : ∀ {es : List (List AV)}, keysOK es = true → lookM (putM es x c) y = if x = y then some c else lookM es y
  | [], _ => by by_cases h : x = y <;> simp [putM, lookM, h]
  | [.str k, v] :: es, h => by
    have ih := look_put (x := x) (y := y) (c := c) (es := es) (by simpa [keysOK] using h)
    simp only [putM]
    by_cases h1 : k = x
    · subst h1
      rw [if_pos rfl]
      by_cases h2 : k = y <;> simp [lookM, h2]
    · rw [if_neg h1]
      by_cases h2 : k = y
      · subst h2
        have : ¬ x = k := fun h3 => h1 h3.symm
        simp [lookM, this]
      · simp only [lookM, if_neg h2]
        exact ih
def mapG {α : Type} (key : α → List UInt8) (val : α → AV) : List (List AV) → List α → List (List AV)
  | es, [] => es
  | es, x :: l => mapG key val (putM es (key x) (val x)) l
theorem mapG_ok {α : Type} (key : α → List UInt8) (val : α → AV) : ∀ (l : List α) (es : List (List AV)), keysOK es = true → keysOK (mapG key val es l) = true
  | [], _, h => h
  | x :: l, es, h => mapG_ok key val l _ (keysOK_putM _ _ h)
theorem mapG_none {α : Type} (key : α → List UInt8) (val : α → AV) (s : List UInt8) : ∀ (l : List α) (es : List (List AV)), keysOK es = true → (∀ x ∈ l, key x ≠ s) → lookM (mapG key val es l) s = lookM es s
  | [], _, _, _ => rfl
  | x :: l, es, h, hn => by
    rw [mapG, mapG_none key val s l _ (keysOK_putM _ _ h) (fun y hy => hn y (by simp [hy])), look_put h, if_neg (hn x (by simp))]
theorem mapG_some {α : Type} (key : α → List UInt8) (val : α → AV) {a : α} : ∀ (l : List α) (es : List (List AV)), keysOK es = true → a ∈ l → (∀ x ∈ l, key x = key a → x = a) → lookM (mapG key val es l) (key a) = some (val a)
  | [], _, _, ha, _ => by cases ha
  | x :: l, es, h, ha, hu => by
    rw [mapG]
    by_cases hl : a ∈ l
    · exact mapG_some key val l _ (keysOK_putM _ _ h) hl (fun y hy => hu y (by simp [hy]))
    · have hx : x = a := ((List.mem_cons.1 ha).resolve_right hl).symm
      subst hx
      rw [mapG_none key val _ l _ (keysOK_putM _ _ h) (fun y hy e => hl (hu y (by simp [hy]) e ▸ hy)), look_put h, if_pos rfl]
def bnG (c : List (List UInt8)) (s : List UInt8) : Nat → Nat → Nat → Nat
  | 0, i, _ => i
  | k + 1, i, j => if i < j then (match c[(i + j) / 2]? with
      | some x => if Op.bytesLess x s = true then bnG c s k ((i + j) / 2 + 1) j else bnG c s k i ((i + j) / 2)
      | none => i) else i
def bnF (c : List (List UInt8)) (s : List UInt8) : Nat := bnG c s c.length 0 c.length
def bnB (c : List (List UInt8)) (s : List UInt8) : Bool := decide (c[bnF c s]? = some s)
theorem bnG_spec (c : List (List UInt8)) (s : List UInt8) (hs : Ris c) : ∀ (k i j : Nat), j ≤ i + k → i ≤ j → j ≤ c.length →
    (∀ (n : Nat) (x : List UInt8), n < i → c[n]? = some x → Op.bytesLess x s = true) → (∀ (n : Nat) (x : List UInt8), j ≤ n → c[n]? = some x → Op.bytesLess x s = false) →
    (∀ (n : Nat) (x : List UInt8), n < bnG c s k i j → c[n]? = some x → Op.bytesLess x s = true) ∧ (∀ (n : Nat) (x : List UInt8), bnG c s k i j ≤ n → c[n]? = some x → Op.bytesLess x s = false)
  | 0, i, j, h1, h2, _, hi, hj => by
    have : i = j := by omega
    subst this
    exact ⟨hi, hj⟩
  | k + 1, i, j, h1, h2, h3, hi, hj => by
    rw [bnG]
    by_cases h : i < j
    · rw [if_pos h]
      have hm : (i + j) / 2 < c.length := by omega
      rw [List.getElem?_eq_getElem hm]
      simp only
      split
      · next hc =>
        refine bnG_spec c s hs k _ _ (by omega) (by omega) h3 (fun n x hn hx => ?_) hj
        obtain ⟨hl, rfl⟩ := List.getElem?_eq_some_iff.1 hx
        rcases Nat.lt_or_ge n ((i + j) / 2) with h5 | h5
        · exact bl_trans (List.pairwise_iff_getElem.1 hs n ((i + j) / 2) hl hm h5) hc
        · have : n = (i + j) / 2 := by omega
          subst this
          exact hc
      · next hc =>
        have hc : Op.bytesLess c[(i + j) / 2] s = false := by simpa using hc
        refine bnG_spec c s hs k _ _ (by omega) (by omega) (by omega) hi (fun n x hn hx => ?_)
        obtain ⟨hl, rfl⟩ := List.getElem?_eq_some_iff.1 hx
        rcases Nat.lt_or_ge ((i + j) / 2) n with h5 | h5
        · have h6 := List.pairwise_iff_getElem.1 hs ((i + j) / 2) n hm hl h5
          cases h7 : Op.bytesLess c[n] s with
          | false => rfl
          | true => rw [bl_trans h6 h7] at hc; cases hc
        · have : n = (i + j) / 2 := by omega
          subst this
          exact hc
    · rw [if_neg h]
      have : i = j := by omega
      subst this
      exact ⟨hi, hj⟩
theorem bn_at {c : List (List UInt8)} (hs : Ris c) {s : List UInt8} {n : Nat} (h : c[n]? = some s) : bnF c s = n ∧ bnB c s = true := by
  obtain ⟨h1, h2⟩ := bnG_spec c s hs c.length 0 c.length (by omega) (by omega) (by omega) (fun n x h => absurd h (by omega)) (fun n x h hx => by
    obtain ⟨hl, _⟩ := List.getElem?_eq_some_iff.1 hx; omega)
  have hl := (List.getElem?_eq_some_iff.1 h).1
  have e : bnF c s = n := by
    rcases Nat.lt_trichotomy (bnF c s) n with h5 | h5 | h5
    · have hb : bnF c s < c.length := by omega
      have h6 := h2 _ _ (Nat.le_refl _) (List.getElem?_eq_getElem hb)
      have h7 := List.pairwise_iff_getElem.1 hs (bnF c s) n hb hl h5
      rw [(List.getElem?_eq_some_iff.1 h).2, h6] at h7
      cases h7
    · exact h5
    · have := h1 n s h5 h
      rw [bl_irrefl] at this
      cases this
  exact ⟨e, by rw [bnB, e, h]; simp⟩
theorem bn_none {c : List (List UInt8)} {s : List UInt8} (h : s ∉ c) : bnB c s = false := by
  rw [bnB, decide_eq_false_iff_not]
  exact fun e => h (List.mem_of_getElem? e)
end Go.Proofs.YtijdnjngfkohfaaGreatDoor

namespace Go.Proofs.YtijdnjngfkohfaaGreatDoor
open Go Go.Abs
attribute [local irreducible] DrawW CallW RetW AC Does CmpW
variable {G : Globs}
theorem bnd1 {α β : Type} (f : Rd → α × Rd) (g : α → Rd → β × Rd) (r : Rd) : bnd f g r = g (f r).1 (f r).2 := rfl
theorem readTexts1_does (v vc : Nat) (r : Rd) (hk : r.ok) (hs : r.s.length < 4294967296) : Does Tryz.prog G 210 ([] ++ [] ++ [.ptr 1 vc 0 0]) [some (rdO v r), some (rcO vc v)]
    fun ae O => ae = .ret (.agg (encT (txtRd r).1)) ∧ O = [some (rdO v (txtRd r).2), some (rcO vc v)] := by
  obtain ⟨k1, k2⟩ := num_keeps r hk
  have dN := Num_does (G := G) v r hk hs
  have dT := Text_does (G := G) v (numRd r).2 k1 (by rw [k2]; exact hs)
  have e1 : txtRd r = (⟨((numRd r).1 : Int), (textRd (numRd r).2).1⟩, (textRd (numRd r).2).2) := rfl
  rw [e1]
  generalize numRd r = x at *
  generalize textRd x.2 = y at *
  refine Does.body tab Tryz.func210 rfl rfl ?_
  refine gos ?_
  intro v1
  refine gos ?_
  refine DrawW.P (.take 0 (.fork (.cons 1 (.take 2 (.take 3 (.take 4 (.take 5 .done)))) (.cons 2 (.take 1 (.take 3 (.take 4 (.take 5 .done)))) .nil)))) ?_
  refine gos ?_
  refine And.intro ?_ (And.intro ?_ trivial)
  all_goals
    refine gos ?_
    refine CallW.meth 0 dN rfl rfl rfl rfl rfl rfl ?_
    refine gos ?_
    refine CallW.meth 0 dT rfl rfl rfl rfl rfl rfl ?_
    refine gos ?_
    refine RetW.plain (by simp) ?_
    exact ⟨rfl, rfl⟩
theorem readTexts_does (v : Nat) (r : Rd) (hk : r.ok) (hs : r.s.length < 4294967296) : Does Tryz.prog G 157 [.ptr 0 v 0 0] [some (rdO v r)]
    fun ae O => ae = .ret (txtL (listRd txtRd r).1) ∧ O = [some (rdO v (listRd txtRd r).2)] := by
  refine Does.body tab Tryz.func157 rfl rfl ?_
  refine gos ?_
  intro vc
  refine gos ?_
  refine CallW.rc (i := 0) (j := 1) (by decide) rfl rfl (listT_does v vc 210 txtRd txt_keeps (readTexts1_does v vc) r hk hs) rfl rfl rfl rfl rfl ?_
  refine gos ?_
  refine RetW.plain (by simp) ?_
  exact ⟨rfl, rfl⟩
theorem readRows1_does (v vc : Nat) (r : Rd) (hk : r.ok) (hs : r.s.length < 4294967296) : Does Tryz.prog G 206 ([] ++ [] ++ [.ptr 1 vc 0 0]) [some (rdO v r), some (rcO vc v)]
    fun ae O => ae = .ret (.agg (encR (rowRd r).1)) ∧ O = [some (rdO v (rowRd r).2), some (rcO vc v)] := by
  obtain ⟨k1, k2⟩ := num_keeps r hk
  have dN := Num_does (G := G) v r hk hs
  have dT := readTexts_does (G := G) v (numRd r).2 k1 (by rw [k2]; exact hs)
  have e1 : rowRd r = (⟨((numRd r).1 : Int), (listRd txtRd (numRd r).2).1⟩, (listRd txtRd (numRd r).2).2) := rfl
  rw [e1]
  generalize numRd r = x at *
  generalize listRd txtRd x.2 = y at *
  refine Does.body tab Tryz.func206 rfl rfl ?_
  refine gos ?_
  intro v1
  refine gos ?_
  refine DrawW.P (.take 0 (.fork (.cons 1 (.take 2 (.take 3 (.take 4 (.take 5 .done)))) (.cons 2 (.take 1 (.take 3 (.take 4 (.take 5 .done)))) .nil)))) ?_
  refine gos ?_
  refine And.intro ?_ (And.intro ?_ trivial)
  all_goals
    refine gos ?_
    refine CallW.meth 0 dN rfl rfl rfl rfl rfl rfl ?_
    refine gos ?_
    refine CallW.meth 0 dT rfl rfl rfl rfl rfl rfl ?_
    refine gos ?_
    refine RetW.plain (by simp) ?_
    exact ⟨rfl, rfl⟩
theorem readRows_does (v : Nat) (r : Rd) (hk : r.ok) (hs : r.s.length < 4294967296) : Does Tryz.prog G 154 [.ptr 0 v 0 0] [some (rdO v r)]
    fun ae O => ae = .ret (rowL (listRd rowRd r).1) ∧ O = [some (rdO v (listRd rowRd r).2)] := by
  refine Does.body tab Tryz.func154 rfl rfl ?_
  refine gos ?_
  intro vc
  refine gos ?_
  refine CallW.rc (i := 0) (j := 1) (by decide) rfl rfl (listR_does v vc 206 rowRd row_keeps (readRows1_does v vc) r hk hs) rfl rfl rfl rfl rfl ?_
  refine gos ?_
  refine RetW.plain (by simp) ?_
  exact ⟨rfl, rfl⟩
theorem Decode2_does (v vc : Nat) (r : Rd) (hk : r.ok) (hs : r.s.length < 4294967296) : Does Tryz.prog G 159 ([] ++ [] ++ [.ptr 1 vc 0 0]) [some (rdO v r), some (rcO vc v)]
    fun ae O => ae = .ret (.agg (encU (untRd r).1)) ∧ O = [some (rdO v (untRd r).2), some (rcO vc v)] := by
  obtain ⟨k1, k2⟩ := text_keeps r hk
  have dN := Text_does (G := G) v r hk hs
  have dT := readTexts_does (G := G) v (textRd r).2 k1 (by rw [k2]; exact hs)
  have e1 : untRd r = (⟨(textRd r).1, (listRd txtRd (textRd r).2).1⟩, (listRd txtRd (textRd r).2).2) := rfl
  rw [e1]
  generalize textRd r = x at *
  generalize listRd txtRd x.2 = y at *
  refine Does.body tab Tryz.func159 rfl rfl ?_
  refine gos ?_
  intro v1
  refine gos ?_
  refine DrawW.P (.take 0 (.fork (.cons 1 (.take 2 (.take 3 (.take 4 (.take 5 .done)))) (.cons 2 (.take 1 (.take 3 (.take 4 (.take 5 .done)))) .nil)))) ?_
  refine gos ?_
  refine And.intro ?_ (And.intro ?_ trivial)
  all_goals
    refine gos ?_
    refine CallW.meth 0 dN rfl rfl rfl rfl rfl rfl ?_
    refine gos ?_
    refine CallW.meth 0 dT rfl rfl rfl rfl rfl rfl ?_
    refine gos ?_
    refine RetW.plain (by simp) ?_
    exact ⟨rfl, rfl⟩
end Go.Proofs.YtijdnjngfkohfaaGreatDoor
