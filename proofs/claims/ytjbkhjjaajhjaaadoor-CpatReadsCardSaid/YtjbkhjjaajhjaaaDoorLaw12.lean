/- Chapter 12's plain law: nothing is done just where the text is a nought alone. -/
import Derived.Test.YtjbkhjjaajhjaaaDoorPat10
set_option linter.unusedVariables false
set_option linter.unusedSimpArgs false
namespace Go.Proofs.YtjbkhjjaajhjaaaDoor
open Go Go.Abs

theorem affL_ne (s : List UInt8) : ∀ f a out ps b, out ≠ [] → affL s f a out = some (ps, b) → ps ≠ []
  | 0, a, out, ps, b, _, h => by simp [affL] at h
  | f + 1, a, out, ps, b, ho, h => by
    unfold affL at h
    split at h
    · exact affL_ne s f _ _ ps b (by simp) h
    · split at h
      · cases h
      · split at h
        · simp at h; rw [← h.1]; exact ho
        · split at h
          · exact affL_ne s f _ _ ps b ho h
          · refine affL_ne s f _ _ ps b ?_ h
            unfold more
            split
            · split <;> simp
            · simp
theorem quoL_ne (s : List UInt8) : ∀ f a acc t b, acc ≠ [] → quoL s f a acc = some (t, b) → t ≠ []
  | 0, a, acc, t, b, _, h => by simp [quoL] at h
  | f + 1, a, acc, t, b, ho, h => by
    unfold quoL at h
    split at h
    · cases h
    split at h
    · exact quoL_ne s f _ _ t b (by simp) h
    split at h
    · simp at h; rw [← h.1]; exact ho
    · exact quoL_ne s f _ _ t b (by simp) h
theorem pre2 {s : List UInt8} {a : Nat} (h : pre s a [39, 39] = true) : pre s a [39] = true := by
  unfold pre at *
  cases hd : s.drop a with
  | nil => rw [hd] at h; simp at h
  | cons x l =>
    rw [hd] at h
    simp only [List.isPrefixOf, Bool.and_eq_true, beq_iff_eq] at h ⊢
    exact ⟨h.1, trivial⟩
theorem quoF_ne {s : List UInt8} {a : Nat} {t : List UInt8} {b : Nat} (h : quoF s a = some (t, b)) : t ≠ [] := by
  unfold quoF at h
  split at h
  · simp at h; rw [← h.1]; simp
  · rename_i hp
    cases hf : s.length + 1 - a with
    | zero => rw [hf] at h; simp [quoL] at h
    | succ f =>
      rw [hf] at h
      unfold quoL at h
      split at h
      · cases h
      split at h
      · rename_i h2; exact absurd (pre2 h2) hp
      · exact quoL_ne s f _ _ t b (by simp) h
theorem litF_ne {s : List UInt8} {a : Nat} {t : List UInt8} {b : Nat} (ha : a ≤ s.length) (h : litF s a = some ((t, true), b)) : t ≠ [] := by
  unfold litF at h
  split at h
  · cases h2 : quoF s (a + 1) with
    | none => rw [h2] at h; simp at h
    | some r =>
      rw [h2] at h
      simp at h
      rw [← h.1]
      exact quoF_ne (b := r.2) h2
  split at h
  · simp at h
  · rename_i hp
    simp only [not_or] at hp
    simp at h
    have h2 := dec_pos (s.drop a) (by intro e; have := congrArg List.length e; simp at this; omega)
    have h1 := dec_le (s.drop a)
    rw [List.length_drop] at h1
    intro e
    rw [e] at h
    have := congrArg List.length h.1
    simp at this
    omega
theorem affF_nil {s : List UInt8} {a b : Nat} (ha : a ≤ s.length) (h : affF s a = some ([], b)) : b = a := by
  unfold affF at h
  cases hf : s.length + 1 - a with
  | zero => omega
  | succ f =>
    rw [hf] at h
    unfold affL at h
    split at h
    · exact absurd rfl (affL_ne s f _ _ _ b (by simp) h)
    · split at h
      · cases h
      · rename_i t ok b' hl
        split at h
        · rename_i hok
          have : ok = false := by simpa using hok
          subst this
          have := litF_f hl
          simp at h; omega
        · rename_i hok
          have : ok = true := by simpa using hok
          subst this
          rw [if_neg (litF_ne ha hl)] at h
          refine absurd rfl (affL_ne s f _ _ _ b ?_ h)
          simp [more]
theorem whoL_pos (s : List UInt8) : ∀ f a N cs, (whoL s f a N cs).1 + N.hash + N.mi + cs.length = a + (whoL s f a N cs).2.1.hash + (whoL s f a N cs).2.1.mi + (whoL s f a N cs).2.2.length ∧ N.hash ≤ (whoL s f a N cs).2.1.hash ∧ (whoL s f a N cs).2.1.g = N.g
  | 0, a, N, cs => by simp [whoL]
  | f + 1, a, N, cs => by
    unfold whoL
    split
    · have := whoL_pos s f (a + 1) { N with hash := N.hash + 1 } cs
      simp only at this ⊢; omega
    split
    · have := whoL_pos s f (a + 1) { N with mi := N.mi + 1 } cs
      simp only at this ⊢; omega
    split
    · have := whoL_pos s f (a + 1) N (cs ++ [N.hash + N.mi])
      simp only [List.length_append, List.length_cons, List.length_nil] at this ⊢; omega
    · simp
theorem affE_nil {s : List UInt8} {a b : Nat} (ha : a ≤ s.length) (h : affE s a = .ok ([], b)) : b = a := by
  unfold affE at h
  split at h
  · cases h
  · rename_i r hr; simp at h; subst h; exact affF_nil ha hr

theorem whoL_cs (s : List UInt8) : ∀ f a N cs, (∀ c ∈ cs, c ≤ N.hash + N.mi) → ∀ c ∈ (whoL s f a N cs).2.2, c ≤ (whoL s f a N cs).2.1.hash + (whoL s f a N cs).2.1.mi
  | 0, a, N, cs, h => by simpa [whoL] using h
  | f + 1, a, N, cs, h => by
    unfold whoL
    split
    · exact whoL_cs s f (a + 1) { N with hash := N.hash + 1 } cs fun c hc => by have := h c hc; simp; omega
    split
    · exact whoL_cs s f (a + 1) { N with mi := N.mi + 1 } cs fun c hc => by have := h c hc; simp; omega
    split
    · refine whoL_cs s f (a + 1) N (cs ++ [N.hash + N.mi]) fun c hc => ?_
      rcases List.mem_append.1 hc with hc | hc
      · exact h c hc
      · rcases List.mem_singleton.1 hc with rfl; exact Nat.le_refl _
    · exact h
theorem whoL_succ (s : List UInt8) (f a : Nat) (N : Num) (cs : List Nat) : whoL s (f + 1) a N cs =
    if N.mi = 0 ∧ pre s a [35] = true then whoL s f (a + 1) { N with hash := N.hash + 1 } cs
    else if pre s a [48] then whoL s f (a + 1) { N with mi := N.mi + 1 } cs
    else if mayC N cs = true ∧ pre s a [44] = true then whoL s f (a + 1) N (cs ++ [N.hash + N.mi])
    else (a, N, cs) := by conv => lhs; unfold whoL
/-- One nought, with nothing about it. -/
theorem zero_of {s : List UInt8} {v : PatV} (h : patF s = .ok v) (hp : v.pre = []) (hq : v.suf = []) (ht : v.two = false) (h1 : v.N.hash = 0) (h2 : v.N.mxf = 0) (h3 : v.N.g = 0) (h4 : v.N.mi = 1) : s = [48] := by
  unfold patF at h
  split at h
  · cases h
  rename_i p a1 hE1
  split at h
  · cases h
  rename_i N a2 hE2
  split at h
  · cases h
  rename_i q a3 hE3
  split at h
  · split at h
    · cases h
    split at h
    · cases h
    split at h
    · cases h
    unfold endE at h
    split at h
    · cases h
    · simp at h; rw [← h] at ht; simp at ht
  · unfold endE at h
    split at h
    · cases h
    rename_i hend
    simp at h
    subst h
    simp only at hp hq h1 h2 h3 h4
    subst hp; subst hq
    have ha1 := affE_nil (by omega) hE1
    subst ha1
    have hn2 := numF_le (by omega) hE2
    have ha3 := affE_nil hn2 hE3
    subst ha3
    have hlen : a3 = s.length := by omega
    subst hlen
    -- the number
    unfold numF at hE2
    split at hE2
    · cases hE2
    rename_i N' b hw
    split at hE2
    · split at hE2
      · cases hE2
      · rename_i hz
        simp at hE2
        rw [← hE2.1] at h2
        simp at h2
        omega
    simp at hE2
    obtain ⟨rfl, rfl⟩ := hE2
    unfold whoF at hw
    simp only [Option.map_eq_some_iff, Prod.mk.injEq] at hw
    obtain ⟨q, hg, rfl, hb⟩ := hw
    have hpos := whoL_pos s (s.length + 1 - 0) 0 Num.zero []
    have hWn : ∃ W, whoL s (s.length + 1 - 0) 0 Num.zero [] = W := ⟨_, rfl⟩
    obtain ⟨⟨b', M, cs⟩, hW⟩ := hWn
    have hcs1 := whoL_cs s (s.length + 1 - 0) 0 Num.zero [] (by simp)
    rw [hW] at hg hb hpos hcs1
    simp only at hcs1
    simp only [Num.zero] at hpos hg hb
    subst hb
    -- no commas
    have hcs : cs = [] ∧ q = M := by
      unfold grpF at hg
      split at hg
      · cases hg
      split at hg
      · simp at hg; exact ⟨rfl, hg.symm⟩
      · split at hg
        · cases hg
        · rename_i c hne
          have := hcs1 c (by simp)
          simp at hg; rw [← hg] at h3 h1 h4; simp at h3 h1 h4; omega
      · split at hg
        · cases hg
        split at hg
        · rename_i c d hne _
          have := hcs1 d (by simp)
          simp at hg; rw [← hg] at h3 h1 h4; simp at h3 h1 h4; omega
        · rename_i c d hne _
          have := hcs1 d (by simp)
          simp at hg; rw [← hg] at h3 h1 h4; simp at h3 h1 h4; omega
      · cases hg
    obtain ⟨rfl, rfl⟩ := hcs
    simp only [List.length_nil] at hpos
    have hl1 : s.length = 1 := by omega
    -- the first step
    have hz : pre s 0 [48] = true := by
      rw [hl1, whoL_succ s 1] at hW
      split at hW
      · have := whoL_pos s 1 (0 + 1) { Num.zero with hash := Num.zero.hash + 1 } []
        rw [hW] at this
        simp [Num.zero] at this
        omega
      split at hW
      · assumption
      split at hW
      · rename_i hm; simp [mayC, Num.zero] at hm
      · have := congrArg (fun x => x.1) hW
        simp at this
    match s, hl1 with
    | [x], _ =>
      simp [pre, List.isPrefixOf] at hz
      rw [hz]
theorem affL_len (s : List UInt8) : ∀ f a out ps b, a ≤ s.length → out.length ≤ a → affL s f a out = some (ps, b) → ps.length ≤ s.length
  | 0, a, out, ps, b, _, _, h => by simp [affL] at h
  | f + 1, a, out, ps, b, ha, ho, h => by
    unfold affL at h
    split at h
    · rename_i hs
      have k := signF_t ha hs
      exact affL_len s f _ _ ps b k.2.1 (by simp; omega) h
    · split at h
      · cases h
      · rename_i t ok b' hl
        split at h
        · simp at h; rw [← h.1]; omega
        · rename_i hok
          have : ok = true := by simpa using hok
          subst this
          have h2 := litF_t ha hl
          split at h
          · exact affL_len s f _ _ ps b h2.2.1 (by omega) h
          · refine affL_len s f _ _ ps b h2.2.1 ?_ h
            unfold more
            split
            · split
              · simp; omega
              · simp; omega
            · simp; omega
theorem affE_len {s : List UInt8} {a b : Nat} {ps : List Piece} (ha : a ≤ s.length) (h : affE s a = .ok (ps, b)) : ps.length ≤ s.length := by
  unfold affE at h
  split at h
  · cases h
  · rename_i r hr
    simp at h; subst h
    exact affL_len s _ a [] _ _ ha (by simp) hr
theorem whoF_places {s : List UInt8} {a b : Nat} {N N' : Num} (h : whoF s a N = some (N', b)) : 0 < N'.hash + N'.mi := by
  unfold whoF at h
  simp only [Option.map_eq_some_iff, Prod.mk.injEq] at h
  obtain ⟨q, hg, rfl, _⟩ := h
  generalize (whoL s (s.length + 1 - a) a N []) = W at hg
  unfold grpF at hg
  split at hg
  · cases hg
  rename_i hp
  split at hg
  · simp at hg; rw [← hg]; omega
  · split at hg
    · cases hg
    · simp at hg; rw [← hg]; simp; omega
  · split at hg
    · cases hg
    split at hg
    · simp at hg; rw [← hg]; simp; omega
    · simp at hg; rw [← hg]; simp; omega
  · cases hg
/-- What is so of every pattern that is read. -/
theorem patF_ok {s : List UInt8} {v : PatV} (h : patF s = .ok v) : 0 < v.N.hash + v.N.mi ∧ v.pre.length ≤ s.length ∧ v.suf.length ≤ s.length ∧ v.npre.length ≤ s.length ∧ v.nsuf.length ≤ s.length := by
  unfold patF at h
  split at h
  · cases h
  rename_i p a1 hE1
  have k1 := affE_le (by omega) hE1
  have j1 := affE_len (by omega) hE1
  split at h
  · cases h
  rename_i N a2 hE2
  have k2 := numF_le k1 hE2
  have hN : 0 < N.hash + N.mi := by
    unfold numF at hE2
    split at hE2
    · cases hE2
    rename_i N' b hw
    have := whoF_places hw
    split at hE2
    · split at hE2
      · cases hE2
      · simp at hE2; rw [← hE2.1]; simpa using this
    · simp at hE2; rw [← hE2.1]; exact this
  split at h
  · cases h
  rename_i q a3 hE3
  have k3 := affE_le k2 hE3
  have j3 := affE_len k2 hE3
  split at h
  · rename_i hs
    have hle := pre_le hs (by simp)
    simp only [List.length_cons, List.length_nil] at hle
    split at h
    · cases h
    rename_i p' a5 hE5
    have k5 := affE_le hle hE5
    have j5 := affE_len hle hE5
    split at h
    · cases h
    rename_i M a6 hE6
    have k6 := numF_le k5 hE6
    split at h
    · cases h
    rename_i q' a7 hE7
    have j7 := affE_len k6 hE7
    unfold endE at h
    split at h
    · cases h
    · simp at h; subst h; exact ⟨hN, j1, j3, j5, j7⟩
  · unfold endE at h
    split at h
    · cases h
    · simp at h; subst h; exact ⟨hN, j1, j3, by simp, by simp⟩
theorem parE_ok {s : List UInt8} {v : PatV} (h : parE s = .ok v) : patF s = .ok v := by
  unfold parE at h
  split at h
  · cases h
  split at h
  · cases h
  split at h
  · rename_i w hw; simp at h; subst h; exact hw
  · cases h
theorem noop_iff {s : List UInt8} {v : PatV} (h : cpaE s = .ok v) : noopF v = (s == [48]) := by
  by_cases hs : s = [48]
  · subst hs
    have : cpaE [48] = .ok ⟨[], [], [], [], false, ⟨0, 1, 0, 0, 0, 0⟩⟩ := by kernel_rfl
    rw [this] at h
    cases h
    rfl
  · have e : (s == [48]) = false := by simpa using hs
    rw [e]
    cases hn : noopF v with
    | false => rfl
    | true =>
      exfalso
      apply hs
      unfold cpaE at h
      split at h
      · cases h
      rename_i v' hE
      split at h
      · cases h
      rename_i hcond
      simp at h
      subst h
      unfold parE at hE
      split at hE
      · cases hE
      split at hE
      · cases hE
      split at hE
      · rename_i v2 hv
        simp at hE
        subst hE
        simp only [noopF, Bool.and_eq_true, decide_eq_true_eq, Bool.not_eq_true'] at hn
        simp only [not_or] at hcond
        exact zero_of hv hn.1.2.1 hn.1.2.2 hn.2 (by omega) (by omega) (by omega) hn.1.1
      · cases hE
end Go.Proofs.YtjbkhjjaajhjaaaDoor
