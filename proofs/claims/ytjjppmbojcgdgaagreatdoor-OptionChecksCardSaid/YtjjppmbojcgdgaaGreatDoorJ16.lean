/- What reads keeps to the text: its place stays within it. -/
import Derived.Test.YtjjppmbojcgdgaaGreatDoorJ07
set_option linter.unusedVariables false
set_option linter.unusedSimpArgs false
set_option maxRecDepth 100000
set_option maxHeartbeats 4000000

namespace Go.Proofs.YtjjppmbojcgdgaaGreatDoor
open Go Go.Abs
set_option linter.unusedVariables false
set_option linter.unusedSimpArgs false
def bsG (c : List Rg) (r : Int) : Nat → Nat → Nat → Nat
  | 0, i, _ => i
  | k + 1, i, j => if i < j then (match c[(i + j) / 2]? with
      | some x => if (x.2.val : Int) < r then bsG c r k ((i + j) / 2 + 1) j else bsG c r k i ((i + j) / 2)
      | none => i) else i
def bsF (c : List Rg) (r : Int) : Nat := bsG c r c.length 0 c.length
def hasF (c : List Rg) (r : Int) : Bool := match c[bsF c r]? with
  | some x => decide ((x.1.val : Int) ≤ r)
  | none => false
def inR (r : Int) (x : Rg) : Prop := (x.1.val : Int) ≤ r ∧ r ≤ (x.2.val : Int)
def Sep (c : List Rg) : Prop := c.Pairwise (fun a b => a.2.val < b.1.val) ∧ ∀ x ∈ c, x.1.val ≤ x.2.val
theorem merg_all : ∀ (l out : List Rg), Sep out → l.Pairwise (fun a b => a.1.val ≤ b.1.val) → (∀ x ∈ l, x.1.val ≤ x.2.val) → (∀ y ∈ out, ∀ x ∈ l, y.1.val ≤ x.1.val) →
    Sep (l.foldl mergR out) ∧ ∀ r, (∃ x ∈ l.foldl mergR out, inR r x) ↔ ((∃ x ∈ out, inR r x) ∨ ∃ x ∈ l, inR r x)
  | [], out, hs, _, _, _ => by simpa using hs
  | x :: l, out, hs, hp, ho, hlo => by
    have hx := ho x (by simp)
    obtain ⟨hp1, hp2⟩ := List.pairwise_cons.1 hp
    have key : Sep (mergR out x) ∧ (∀ y ∈ mergR out x, y.1.val ≤ x.1.val) ∧ ∀ r, (∃ y ∈ mergR out x, inR r y) ↔ ((∃ y ∈ out, inR r y) ∨ inR r x) := by
      rcases List.eq_nil_or_concat out with rfl | ⟨a, y, rfl⟩
      · refine ⟨⟨by simp [mergR], by simpa [mergR] using hx⟩, by simp [mergR], by simp [mergR]⟩
      · simp only [List.concat_eq_append] at *
        obtain ⟨h1, h2⟩ := hs
        have hya : ∀ z ∈ a, z.2.val < y.1.val := fun z hz => (List.pairwise_append.1 h1).2.2 z hz y (by simp)
        have hy := h2 y (by simp)
        have hyx := hlo y (by simp) x (by simp)
        rw [mergR_snoc]
        split
        · next hc =>
          have hv : (if y.2.val < x.2.val then x.2 else y.2).val = if y.2.val < x.2.val then x.2.val else y.2.val := by split <;> rfl
          refine ⟨⟨?_, ?_⟩, ?_, ?_⟩
          · rw [List.pairwise_append]
            refine ⟨(List.pairwise_append.1 h1).1, by simp, fun z hz w hw => ?_⟩
            rw [List.mem_singleton] at hw
            subst hw
            exact hya z hz
          · intro z hz
            rcases List.mem_append.1 hz with hz | hz
            · exact h2 z (by simp [hz])
            · rw [List.mem_singleton] at hz
              subst hz
              show y.1.val ≤ (if y.2.val < x.2.val then x.2 else y.2).val
              rw [hv]
              split <;> omega
          · intro z hz
            rcases List.mem_append.1 hz with hz | hz
            · exact hlo z (by simp [hz]) x (by simp)
            · rw [List.mem_singleton] at hz
              subst hz
              exact hyx
          · intro r
            simp only [List.mem_append, List.mem_singleton, inR]
            constructor
            · rintro ⟨z, hz | rfl, e1, e2⟩
              · exact .inl ⟨z, .inl hz, e1, e2⟩
              · simp only [hv] at e1 e2
                by_cases h4 : r ≤ y.2.val
                · exact .inl ⟨y, .inr rfl, e1, h4⟩
                · refine .inr ⟨by omega, ?_⟩
                  split at e2 <;> omega
            · rintro (⟨z, hz | rfl, e1, e2⟩ | ⟨e1, e2⟩)
              · exact ⟨z, .inl hz, e1, e2⟩
              · refine ⟨_, .inr rfl, e1, ?_⟩
                rw [hv]
                split <;> omega
              · refine ⟨_, .inr rfl, ?_, ?_⟩
                · show (y.1.val : Int) ≤ r
                  omega
                · rw [hv]
                  split <;> omega
        · next hc =>
          refine ⟨⟨?_, ?_⟩, ?_, ?_⟩
          · rw [List.pairwise_append]
            refine ⟨h1, by simp, fun z hz w hw => ?_⟩
            rw [List.mem_singleton] at hw
            subst hw
            rcases List.mem_append.1 hz with hz | hz
            · have := hya z hz; omega
            · rw [List.mem_singleton] at hz; subst hz; omega
          · intro z hz
            rcases List.mem_append.1 hz with hz | hz
            · exact h2 z hz
            · rw [List.mem_singleton] at hz; subst hz; exact hx
          · intro z hz
            rcases List.mem_append.1 hz with hz | hz
            · exact hlo z hz x (by simp)
            · rw [List.mem_singleton] at hz; subst hz; exact Nat.le_refl _
          · intro r
            constructor
            · rintro ⟨z, hz, e⟩
              rcases List.mem_append.1 hz with hz | hz
              · exact .inl ⟨z, hz, e⟩
              · rw [List.mem_singleton] at hz; subst hz; exact .inr e
            · rintro (⟨z, hz, e⟩ | e)
              · exact ⟨z, List.mem_append.2 (.inl hz), e⟩
              · exact ⟨x, List.mem_append.2 (.inr (by simp)), e⟩
    obtain ⟨k1, k2, k3⟩ := key
    have ih := merg_all l (mergR out x) k1 hp2 (fun z hz => ho z (by simp [hz])) (fun z hz w hw => Nat.le_trans (k2 z hz) (hp1 w hw))
    refine ⟨ih.1, fun r => ?_⟩
    rw [List.foldl_cons, ih.2 r, k3 r]
    simp only [List.mem_cons, exists_eq_or_imp, or_assoc]
theorem bsG_spec (c : List Rg) (r : Int) (hs : c.Pairwise (fun a b => a.2.val < b.2.val)) : ∀ (k i j : Nat), j ≤ i + k → i ≤ j → j ≤ c.length →
    (∀ (n : Nat) (x : Rg), n < i → c[n]? = some x → (x.2.val : Int) < r) → (∀ (n : Nat) (x : Rg), j ≤ n → c[n]? = some x → r ≤ (x.2.val : Int)) →
    (∀ (n : Nat) (x : Rg), n < bsG c r k i j → c[n]? = some x → (x.2.val : Int) < r) ∧ (∀ (n : Nat) (x : Rg), bsG c r k i j ≤ n → c[n]? = some x → r ≤ (x.2.val : Int))
  | 0, i, j, h1, h2, _, hi, hj => by
    have : i = j := by omega
    subst this
    exact ⟨hi, hj⟩
  | k + 1, i, j, h1, h2, h3, hi, hj => by
    rw [bsG]
    by_cases h : i < j
    · rw [if_pos h]
      have hm : (i + j) / 2 < c.length := by omega
      rw [List.getElem?_eq_getElem hm]
      simp only
      split
      · next hc =>
        refine bsG_spec c r hs k _ _ (by omega) (by omega) h3 (fun n x hn hx => ?_) hj
        obtain ⟨hl, rfl⟩ := List.getElem?_eq_some_iff.1 hx
        rcases Nat.lt_or_ge n ((i + j) / 2) with h5 | h5
        · have := List.pairwise_iff_getElem.1 hs n ((i + j) / 2) hl hm h5
          omega
        · have : n = (i + j) / 2 := by omega
          subst this
          exact hc
      · next hc =>
        refine bsG_spec c r hs k _ _ (by omega) (by omega) (by omega) hi (fun n x hn hx => ?_)
        obtain ⟨hl, rfl⟩ := List.getElem?_eq_some_iff.1 hx
        rcases Nat.lt_or_ge ((i + j) / 2) n with h5 | h5
        · have := List.pairwise_iff_getElem.1 hs ((i + j) / 2) n hm hl h5
          omega
        · have : n = (i + j) / 2 := by omega
          subst this
          omega
    · rw [if_neg h]
      have : i = j := by omega
      subst this
      exact ⟨hi, hj⟩
theorem has_sep {c : List Rg} (hs : Sep c) (r : Int) : hasF c r = true ↔ ∃ x ∈ c, inR r x := by
  have hh : c.Pairwise (fun a b => a.2.val < b.2.val) := by
    refine List.Pairwise.imp_of_mem (fun {a b} ha hb h => ?_) hs.1
    have := hs.2 b hb
    omega
  obtain ⟨h1, h2⟩ := bsG_spec c r hh c.length 0 c.length (by omega) (by omega) (by omega) (fun n x h => absurd h (by omega)) (fun n x h hx => by
    obtain ⟨hl, _⟩ := List.getElem?_eq_some_iff.1 hx; omega)
  rw [hasF]
  constructor
  · intro h
    cases hx : c[bsF c r]? with
    | none => rw [hx] at h; cases h
    | some x =>
      rw [hx] at h
      exact ⟨x, List.mem_of_getElem? hx, by simpa using h, h2 _ _ (Nat.le_refl _) hx⟩
  · rintro ⟨x, hx, e1, e2⟩
    obtain ⟨n, hl, rfl⟩ := List.getElem_of_mem hx
    have hg : c[n]? = some c[n] := List.getElem?_eq_getElem hl
    have hn : bsF c r ≤ n := Nat.le_of_not_lt fun h => by
      have := h1 n _ h hg
      omega
    have hb : bsF c r < c.length := by omega
    rw [List.getElem?_eq_getElem hb]
    have h3 := h2 _ _ (Nat.le_refl _) (List.getElem?_eq_getElem hb)
    simp only [decide_eq_true_eq]
    rcases Nat.lt_or_ge (bsF c r) n with h5 | h5
    · have := List.pairwise_iff_getElem.1 hs.1 (bsF c r) n hb hl h5
      have h6 := hs.2 _ (List.getElem_mem hb)
      omega
    · have : n = bsF c r := by omega
      subst this
      exact e1
end Go.Proofs.YtjjppmbojcgdgaaGreatDoor

namespace Go.Proofs.YtjjppmbojcgdgaaGreatDoor
open Go Go.Abs
set_option linter.unusedVariables false
set_option linter.unusedSimpArgs false
def Rd.ok (r : Rd) : Prop := r.p ≤ r.s.length
def Keeps {α : Type} (f : Rd → α × Rd) : Prop := ∀ r, r.ok → (f r).2.ok ∧ (f r).2.s = r.s
theorem keeps_rtn {α : Type} (a : α) : Keeps (rtn a) := fun r h => ⟨h, rfl⟩
theorem keeps_bnd {α β : Type} {f : Rd → α × Rd} {g : α → Rd → β × Rd} (h1 : Keeps f) (h2 : ∀ a, Keeps (g a)) : Keeps (bnd f g) := fun r h => by
  obtain ⟨a1, a2⟩ := h1 r h
  obtain ⟨b1, b2⟩ := h2 (f r).1 (f r).2 a1
  exact ⟨b1, b2.trans a2⟩
theorem numG_keeps : ∀ (k : Nat) (r : Rd) (n sh : Nat), r.ok → (numG k r n sh).2.ok ∧ (numG k r n sh).2.s = r.s
  | 0, r, n, sh, h => ⟨h, rfl⟩
  | k + 1, r, n, sh, h => by
    rw [numG]
    cases hb : r.s[r.p]? with
    | none => exact ⟨h, rfl⟩
    | some b =>
      have hlt := (List.getElem?_eq_some_iff.1 hb).1
      have h1 : Rd.ok { r with p := r.p + 1 } := by show r.p + 1 ≤ r.s.length; omega
      simp only
      split
      · exact ⟨h, rfl⟩
      split
      · split
        · exact ⟨h1, rfl⟩
        · exact ⟨h1, rfl⟩
      · exact numG_keeps k _ _ _ h1
theorem numG_lt : ∀ (k : Nat) (r : Rd) (n sh : Nat), n < 2 ^ sh → sh % 7 = 0 → (numG k r n sh).1 < 9223372036854775808
  | 0, r, n, sh, h, h7 => by simp [numG]
  | k + 1, r, n, sh, h, h7 => by
    rw [numG]
    cases hb : r.s[r.p]? with
    | none => simp
    | some b =>
      simp only
      split
      · simp
      rename_i h56
      have h2 : ∀ x, x < 128 → n + x * 2 ^ sh < 2 ^ (sh + 7) := fun x hx => by
        rw [Nat.pow_add]
        have : x * 2 ^ sh ≤ 127 * 2 ^ sh := Nat.mul_le_mul_right _ (by omega)
        omega
      have h3 : 2 ^ (sh + 7) ≤ 2 ^ 63 := Nat.pow_le_pow_right (by decide) (by omega)
      have h4 : (2 : Nat) ^ 63 = 9223372036854775808 := by decide
      split
      · rename_i hlt
        split
        · simp
        · have := h2 b.toNat hlt
          show n + b.toNat * 2 ^ sh < _
          omega
      · exact numG_lt k _ _ _ (h2 _ (Nat.mod_lt _ (by decide))) (by omega)
theorem num_keeps : Keeps numRd := fun r h => by
  unfold numRd
  split
  · exact ⟨h, rfl⟩
  · exact numG_keeps _ _ _ _ h
theorem numRd_lt (r : Rd) : (numRd r).1 < 9223372036854775808 := by
  unfold numRd
  split
  · simp
  · exact numG_lt _ _ _ _ (by simp) rfl
theorem text_keeps : Keeps textRd := fun r h => by
  obtain ⟨a1, a2⟩ := num_keeps r h
  unfold textRd
  simp only
  split
  · exact ⟨a1, a2⟩
  · rename_i hn
    simp only [not_or] at hn
    refine ⟨?_, a2⟩
    show (numRd r).2.p + (numRd r).1 ≤ (numRd r).2.s.length
    have : (numRd r).2.p ≤ (numRd r).2.s.length := a1
    omega
theorem count_keeps (m : Nat) : Keeps (countRd m) := fun r h => by
  obtain ⟨a1, a2⟩ := num_keeps r h
  unfold countRd
  simp only
  split
  · exact ⟨a1, a2⟩
  · exact ⟨a1, a2⟩
theorem count_le (m : Nat) (r : Rd) : (countRd m r).1 ≤ m := by
  unfold countRd
  simp only
  split
  · simp
  · omega
theorem listG_keeps {α : Type} {one : Rd → α × Rd} (h1 : Keeps one) : ∀ n, Keeps (listG one n)
  | 0 => fun r h => ⟨h, rfl⟩
  | n + 1 => fun r h => by
    rw [listG]
    split
    · exact ⟨h, rfl⟩
    · obtain ⟨a1, a2⟩ := h1 r h
      obtain ⟨b1, b2⟩ := listG_keeps h1 n (one r).2 a1
      exact ⟨b1, b2.trans a2⟩
theorem listG_len {α : Type} {one : Rd → α × Rd} : ∀ (n : Nat) (r : Rd), (listG one n r).1.length ≤ n
  | 0, r => Nat.le_refl _
  | n + 1, r => by
    rw [listG]
    split
    · simp
    · have := listG_len (one := one) n (one r).2
      simp only [List.length_cons]
      omega
theorem list_keeps {α : Type} {one : Rd → α × Rd} (h1 : Keeps one) : Keeps (listRd one) := fun r h => by
  obtain ⟨a1, a2⟩ := count_keeps 65536 r h
  obtain ⟨b1, b2⟩ := listG_keeps h1 (countRd 65536 r).1 (countRd 65536 r).2 a1
  exact ⟨b1, b2.trans a2⟩
theorem txt_keeps : Keeps txtRd := keeps_bnd num_keeps fun _ => keeps_bnd text_keeps fun _ => keeps_rtn _
theorem txts_keeps : Keeps (listRd txtRd) := list_keeps txt_keeps
theorem row_keeps : Keeps rowRd := keeps_bnd num_keeps fun _ => keeps_bnd txts_keeps fun _ => keeps_rtn _
theorem unt_keeps : Keeps untRd := keeps_bnd text_keeps fun _ => keeps_bnd txts_keeps fun _ => keeps_rtn _
theorem cur_keeps : Keeps curRd := keeps_bnd text_keeps fun _ => keeps_bnd text_keeps fun _ => keeps_bnd text_keeps fun _ => keeps_bnd txts_keeps fun _ => keeps_bnd num_keeps fun _ => keeps_bnd num_keeps fun _ => keeps_bnd num_keeps fun _ => keeps_bnd num_keeps fun _ => keeps_rtn _
theorem rows_keeps : Keeps (listRd rowRd) := list_keeps row_keeps
theorem unts_keeps : Keeps (listRd untRd) := list_keeps unt_keeps
theorem curs_keeps : Keeps (listRd curRd) := list_keeps cur_keeps
end Go.Proofs.YtjjppmbojcgdgaaGreatDoor
