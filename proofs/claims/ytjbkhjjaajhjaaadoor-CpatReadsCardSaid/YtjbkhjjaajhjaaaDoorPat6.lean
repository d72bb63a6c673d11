/- The reader of patterns: numbers. -/
import Derived.Test.YtjbkhjjaajhjaaaDoorPat5
set_option linter.unusedVariables false
set_option linter.unusedSimpArgs false
namespace Go.Proofs.YtjbkhjjaajhjaaaDoor
open Go Go.Abs
attribute [local irreducible] DrawW CallW RetW AC Does CmpW
set_option maxRecDepth 100000
variable {G : Globs}

theorem whoL_keeps (s : List UInt8) : ∀ f a N cs, a ≤ s.length → (whoL s f a N cs).2.1.mnf = N.mnf ∧ (whoL s f a N cs).2.1.mxf = N.mxf ∧ a ≤ (whoL s f a N cs).1 ∧ (whoL s f a N cs).1 ≤ s.length
  | 0, a, N, cs, h => by simp [whoL, h]
  | f + 1, a, N, cs, h => by
    unfold whoL
    split
    · rename_i hp
      have hle := pre_le hp.2 (by simp)
      simp only [List.length_cons, List.length_nil] at hle
      have := whoL_keeps s f (a + 1) { N with hash := N.hash + 1 } cs (by omega)
      simp only at this ⊢; omega
    split
    · rename_i hp
      have hle := pre_le hp (by simp)
      simp only [List.length_cons, List.length_nil] at hle
      have := whoL_keeps s f (a + 1) { N with mi := N.mi + 1 } cs (by omega)
      simp only at this ⊢; omega
    split
    · rename_i hp
      have hle := pre_le hp.2 (by simp)
      simp only [List.length_cons, List.length_nil] at hle
      have := whoL_keeps s f (a + 1) N (cs ++ [N.hash + N.mi]) (by omega)
      omega
    · simp [h]
theorem grpF_keeps {p : Nat} {cs : List Nat} {N N' : Num} (h : grpF p cs N = some N') : N'.mnf = N.mnf ∧ N'.mxf = N.mxf := by
  unfold grpF at h
  split at h
  · cases h
  split at h
  · simp at h; subst h; exact ⟨rfl, rfl⟩
  · split at h
    · cases h
    · simp at h; subst h; exact ⟨rfl, rfl⟩
  · split at h
    · cases h
    split at h
    · simp at h; subst h; exact ⟨rfl, rfl⟩
    · simp at h; subst h; exact ⟨rfl, rfl⟩
  · cases h
theorem whoF_keeps {s : List UInt8} {a b : Nat} {N N' : Num} (ha : a ≤ s.length) (h : whoF s a N = some (N', b)) : N'.mnf = N.mnf ∧ N'.mxf = N.mxf ∧ a ≤ b ∧ b ≤ s.length := by
  unfold whoF at h
  simp only [Option.map_eq_some_iff, Prod.mk.injEq] at h
  obtain ⟨q, h1, rfl, rfl⟩ := h
  have k := whoL_keeps s (s.length + 1 - a) a N [] ha
  have k2 := grpF_keeps h1
  exact ⟨k2.1.trans k.1, k2.2.trans k.2.1, k.2.2.1, k.2.2.2⟩

/-- How many of a byte are next. -/
def cntN (s : List UInt8) (c : UInt8) : Nat → Nat → Nat
  | 0, _ => 0
  | f + 1, a => if pre s a [c] then cntN s c f (a + 1) + 1 else 0
theorem cntN_le (s : List UInt8) (c : UInt8) : ∀ f a, a ≤ s.length → a + cntN s c f a ≤ s.length
  | 0, a, h => by simp [cntN]; exact h
  | f + 1, a, h => by
    unfold cntN
    split
    · rename_i hp
      have h1 := pre_le hp (by simp)
      simp only [List.length_cons, List.length_nil] at h1
      have := cntN_le s c f (a + 1) (by omega)
      omega
    · simpa using h
/-- The places of a number, and where they end; or where it gives up. -/
def numF (s : List UInt8) (a : Nat) : Except Nat (Num × Nat) :=
  match whoF s a Num.zero with
  | none => .error (whoL s (s.length + 1 - a) a Num.zero []).1
  | some (N, b) =>
    if pre s b [46] then
      if cntN s 48 s.length (b + 1) + cntN s 35 s.length (b + 1 + cntN s 48 s.length (b + 1)) = 0 then .error (b + 1 + cntN s 48 s.length (b + 1) + cntN s 35 s.length (b + 1 + cntN s 48 s.length (b + 1)))
      else .ok ({ N with mnf := cntN s 48 s.length (b + 1), mxf := cntN s 48 s.length (b + 1) + cntN s 35 s.length (b + 1 + cntN s 48 s.length (b + 1)) }, b + 1 + cntN s 48 s.length (b + 1) + cntN s 35 s.length (b + 1 + cntN s 48 s.length (b + 1)))
    else .ok (N, b)

theorem number_does (s : List UInt8) (a ver pv : Nat) (x : Aff) (hx : x.ok) (two : Bool) (ha : a ≤ s.length) (hs : s.length < 100000) :
    Does Tryd.prog G 20 [.ptr 0 ver 0 0, .ptr 1 pv 0 0] [some (rdr ver s a), some (patO pv x two Num.zero)] fun ae O => match numF s a with
      | .error b => ae = .panic (faultV b)
      | .ok r => ae = .ret (.tuple []) ∧ O = [some (rdr ver s r.2), some (patO pv x two r.1)] := by
  refine Does.body tab Tryd.func20 rfl rfl ?_
  (repeat (first | refine And.intro rfl ?_ | refine Exists.intro _ (And.intro (wrap_i64 (by first | omega | (simp; done) | (simp; omega)) (by first | omega | (simp; done) | (simp; omega))) ?_) | refine Exists.intro _ (And.intro rfl ?_) | refine And.intro (fun _ => ?_) (fun h => Bool.noConfusion h) | refine And.intro (fun h => Bool.noConfusion h) (fun _ => ?_) | refine And.intro (And.intro (by decide) (by decide)) ?_ | refine And.intro (And.intro (Nat.le_of_ble_eq_true rfl) (Nat.le_of_ble_eq_true rfl)) ?_ | refine And.intro (And.intro rfl (And.intro rfl (And.intro rfl rfl))) ?_ | refine And.intro (And.intro rfl (And.intro rfl (Nat.le_of_ble_eq_true rfl))) ?_ | refine And.intro (And.intro rfl (And.intro rfl rfl)) ?_ | refine And.intro trivial ?_ | refine CmpW.t rfl ?_ | refine CmpW.f rfl ?_))
  refine CallW.of2 0 1 (whole_does s a ver pv x hx two Num.zero ha hs ⟨rfl, rfl⟩) (by decide) rfl rfl rfl (patO_closed hx) rfl rfl ?_
  intro ae O hw
  unfold numF
  cases hwf : whoF s a Num.zero with
  | none =>
    rw [hwf] at hw
    obtain ⟨b, rfl, rfl⟩ := hw
    refine ⟨rfl, fun s' hl => ?_⟩
    (repeat (first | refine And.intro rfl ?_ | refine Exists.intro _ (And.intro (wrap_i64 (by first | omega | (simp; done) | (simp; omega)) (by first | omega | (simp; done) | (simp; omega))) ?_) | refine Exists.intro _ (And.intro rfl ?_) | refine And.intro (fun _ => ?_) (fun h => Bool.noConfusion h) | refine And.intro (fun h => Bool.noConfusion h) (fun _ => ?_) | refine And.intro (And.intro (by decide) (by decide)) ?_ | refine And.intro (And.intro (Nat.le_of_ble_eq_true rfl) (Nat.le_of_ble_eq_true rfl)) ?_ | refine And.intro (And.intro rfl (And.intro rfl (And.intro rfl rfl))) ?_ | refine And.intro (And.intro rfl (And.intro rfl (Nat.le_of_ble_eq_true rfl))) ?_ | refine And.intro (And.intro rfl (And.intro rfl rfl)) ?_ | refine And.intro trivial ?_ | refine CmpW.t rfl ?_ | refine CmpW.f rfl ?_))
    exact ⟨by rw [hl]; simp, rfl⟩
  | some r =>
    obtain ⟨N, b⟩ := r
    rw [hwf] at hw
    obtain ⟨rfl, rfl⟩ := hw
    obtain ⟨n1, n2, n3, n4⟩ := whoF_keeps ha hwf
    refine ⟨_, _, rfl, rfl, patO_closed hx, rfl, ?_⟩
    (repeat (first | refine And.intro rfl ?_ | refine Exists.intro _ (And.intro (wrap_i64 (by first | omega | (simp; done) | (simp; omega)) (by first | omega | (simp; done) | (simp; omega))) ?_) | refine Exists.intro _ (And.intro rfl ?_) | refine And.intro (fun _ => ?_) (fun h => Bool.noConfusion h) | refine And.intro (fun h => Bool.noConfusion h) (fun _ => ?_) | refine And.intro (And.intro (by decide) (by decide)) ?_ | refine And.intro (And.intro (Nat.le_of_ble_eq_true rfl) (Nat.le_of_ble_eq_true rfl)) ?_ | refine And.intro (And.intro rfl (And.intro rfl (And.intro rfl rfl))) ?_ | refine And.intro (And.intro rfl (And.intro rfl (Nat.le_of_ble_eq_true rfl))) ?_ | refine And.intro (And.intro rfl (And.intro rfl rfl)) ?_ | refine And.intro trivial ?_ | refine CmpW.t rfl ?_ | refine CmpW.f rfl ?_))
    cases hd : pre s b [46] with
    | false =>
      refine CallW.meth 0 (take_no hd n4 _) rfl rfl rfl rfl rfl rfl ?_
      (repeat (first | refine And.intro rfl ?_ | refine Exists.intro _ (And.intro (wrap_i64 (by first | omega | (simp; done) | (simp; omega)) (by first | omega | (simp; done) | (simp; omega))) ?_) | refine Exists.intro _ (And.intro rfl ?_) | refine And.intro (fun _ => ?_) (fun h => Bool.noConfusion h) | refine And.intro (fun h => Bool.noConfusion h) (fun _ => ?_) | refine And.intro (And.intro (by decide) (by decide)) ?_ | refine And.intro (And.intro (Nat.le_of_ble_eq_true rfl) (Nat.le_of_ble_eq_true rfl)) ?_ | refine And.intro (And.intro rfl (And.intro rfl (And.intro rfl rfl))) ?_ | refine And.intro (And.intro rfl (And.intro rfl (Nat.le_of_ble_eq_true rfl))) ?_ | refine And.intro (And.intro rfl (And.intro rfl rfl)) ?_ | refine And.intro trivial ?_ | refine CmpW.t rfl ?_ | refine CmpW.f rfl ?_))
      refine RetW.plain (by simp) ?_
      simp only [hd, if_neg (show ¬ (false = true) by simp)]
      exact ⟨trivial, rfl⟩
    | true =>
      have hle := pre_le hd (by simp)
      simp only [List.length_cons, List.length_nil] at hle
      simp only [hd, if_true]
      refine CallW.meth 0 (take_yes 1 rfl hd hle (by omega) _) rfl rfl rfl rfl rfl rfl ?_
      (repeat (first | refine And.intro rfl ?_ | refine Exists.intro _ (And.intro (wrap_i64 (by first | omega | (simp; done) | (simp; omega)) (by first | omega | (simp; done) | (simp; omega))) ?_) | refine Exists.intro _ (And.intro rfl ?_) | refine And.intro (fun _ => ?_) (fun h => Bool.noConfusion h) | refine And.intro (fun h => Bool.noConfusion h) (fun _ => ?_) | refine And.intro (And.intro (by decide) (by decide)) ?_ | refine And.intro (And.intro (Nat.le_of_ble_eq_true rfl) (Nat.le_of_ble_eq_true rfl)) ?_ | refine And.intro (And.intro rfl (And.intro rfl (And.intro rfl rfl))) ?_ | refine And.intro (And.intro rfl (And.intro rfl (Nat.le_of_ble_eq_true rfl))) ?_ | refine And.intro (And.intro rfl (And.intro rfl rfl)) ?_ | refine And.intro trivial ?_ | refine CmpW.t rfl ?_ | refine CmpW.f rfl ?_))
      refine AC.loopC tab (fun n e h => ∃ k, s.length < n + (b + 1 + k) ∧ b + 1 + k ≤ s.length ∧ cntN s 48 s.length (b + 1) = k + cntN s 48 n (b + 1 + k) ∧
        e = [.ptr 0 ver 0 0, .ptr 1 pv 0 0] ++ List.replicate 40 .any ∧ h = [some (rdr ver s (b + 1 + k)), some (patO pv x two { N with mnf := k })]) s.length ⟨_, by (repeat (first | exact Fgt.nil | refine Fgt.keep ?_ | refine Fgt.drop ?_)), 0, by omega, by omega, by simp, rfl, ?_⟩ ?_
      · obtain ⟨q1, q2, q3, q4, q5, q6⟩ := N
        obtain rfl : q3 = 0 := n1
        rfl
      rintro n e h ⟨k, hn, hk, hc, rfl, rfl⟩
      obtain ⟨n, rfl⟩ : ∃ m, n = m + 1 := ⟨n - 1, by omega⟩
      simp only [cntN] at hc
      (repeat (first | refine And.intro rfl ?_ | refine Exists.intro _ (And.intro (wrap_i64 (by first | omega | (simp; done) | (simp; omega)) (by first | omega | (simp; done) | (simp; omega))) ?_) | refine Exists.intro _ (And.intro rfl ?_) | refine And.intro (fun _ => ?_) (fun h => Bool.noConfusion h) | refine And.intro (fun h => Bool.noConfusion h) (fun _ => ?_) | refine And.intro (And.intro (by decide) (by decide)) ?_ | refine And.intro (And.intro (Nat.le_of_ble_eq_true rfl) (Nat.le_of_ble_eq_true rfl)) ?_ | refine And.intro (And.intro rfl (And.intro rfl (And.intro rfl rfl))) ?_ | refine And.intro (And.intro rfl (And.intro rfl (Nat.le_of_ble_eq_true rfl))) ?_ | refine And.intro (And.intro rfl (And.intro rfl rfl)) ?_ | refine And.intro trivial ?_ | refine CmpW.t rfl ?_ | refine CmpW.f rfl ?_))
      cases hz : pre s (b + 1 + k) [48] with
      | true =>
        have hle2 := pre_le hz (by simp)
        simp only [List.length_cons, List.length_nil] at hle2
        rw [if_pos hz] at hc
        refine CallW.meth 0 (take_yes 1 rfl hz hle2 (by omega) _) rfl rfl rfl rfl rfl rfl ?_
        (repeat (first | refine And.intro rfl ?_ | refine Exists.intro _ (And.intro (wrap_i64 (by first | omega | (simp; done) | (simp; omega)) (by first | omega | (simp; done) | (simp; omega))) ?_) | refine Exists.intro _ (And.intro rfl ?_) | refine And.intro (fun _ => ?_) (fun h => Bool.noConfusion h) | refine And.intro (fun h => Bool.noConfusion h) (fun _ => ?_) | refine And.intro (And.intro (by decide) (by decide)) ?_ | refine And.intro (And.intro (Nat.le_of_ble_eq_true rfl) (Nat.le_of_ble_eq_true rfl)) ?_ | refine And.intro (And.intro rfl (And.intro rfl (And.intro rfl rfl))) ?_ | refine And.intro (And.intro rfl (And.intro rfl (Nat.le_of_ble_eq_true rfl))) ?_ | refine And.intro (And.intro rfl (And.intro rfl rfl)) ?_ | refine And.intro trivial ?_ | refine CmpW.t rfl ?_ | refine CmpW.f rfl ?_))
        refine ⟨n, _, 2, by omega, by (repeat (first | exact Fgt.nil | refine Fgt.keep ?_ | refine Fgt.drop ?_)), k + 1, by omega, by omega, ?_, rfl, rfl⟩
        rw [hc, show b + 1 + (k + 1) = b + 1 + k + 1 by omega]; omega
      | false =>
        rw [if_neg (by simp [hz])] at hc
        have hkz : cntN s 48 s.length (b + 1) = k := by omega
        rw [hkz]
        refine CallW.meth 0 (take_no hz hk _) rfl rfl rfl rfl rfl rfl ?_
        (repeat (first | refine And.intro rfl ?_ | refine Exists.intro _ (And.intro (wrap_i64 (by first | omega | (simp; done) | (simp; omega)) (by first | omega | (simp; done) | (simp; omega))) ?_) | refine Exists.intro _ (And.intro rfl ?_) | refine And.intro (fun _ => ?_) (fun h => Bool.noConfusion h) | refine And.intro (fun h => Bool.noConfusion h) (fun _ => ?_) | refine And.intro (And.intro (by decide) (by decide)) ?_ | refine And.intro (And.intro (Nat.le_of_ble_eq_true rfl) (Nat.le_of_ble_eq_true rfl)) ?_ | refine And.intro (And.intro rfl (And.intro rfl (And.intro rfl rfl))) ?_ | refine And.intro (And.intro rfl (And.intro rfl (Nat.le_of_ble_eq_true rfl))) ?_ | refine And.intro (And.intro rfl (And.intro rfl rfl)) ?_ | refine And.intro trivial ?_ | refine CmpW.t rfl ?_ | refine CmpW.f rfl ?_))
        refine AC.loopC tab (fun n e h => ∃ j, s.length < n + (b + 1 + k + j) ∧ b + 1 + k + j ≤ s.length ∧ cntN s 35 s.length (b + 1 + k) = j + cntN s 35 n (b + 1 + k + j) ∧
          e = [.ptr 0 ver 0 0, .ptr 1 pv 0 0] ++ List.replicate 40 .any ∧ h = [some (rdr ver s (b + 1 + k + j)), some (patO pv x two { N with mnf := k, mxf := k + j })]) s.length ⟨_, by (repeat (first | exact Fgt.nil | refine Fgt.keep ?_ | refine Fgt.drop ?_)), 0, by omega, by omega, by simp, rfl, rfl⟩ ?_
        rintro n' e h ⟨j, hn', hj, hc', rfl, rfl⟩
        obtain ⟨n', rfl⟩ : ∃ m, n' = m + 1 := ⟨n' - 1, by omega⟩
        simp only [cntN] at hc'
        (repeat (first | refine And.intro rfl ?_ | refine Exists.intro _ (And.intro (wrap_i64 (by first | omega | (simp; done) | (simp; omega)) (by first | omega | (simp; done) | (simp; omega))) ?_) | refine Exists.intro _ (And.intro rfl ?_) | refine And.intro (fun _ => ?_) (fun h => Bool.noConfusion h) | refine And.intro (fun h => Bool.noConfusion h) (fun _ => ?_) | refine And.intro (And.intro (by decide) (by decide)) ?_ | refine And.intro (And.intro (Nat.le_of_ble_eq_true rfl) (Nat.le_of_ble_eq_true rfl)) ?_ | refine And.intro (And.intro rfl (And.intro rfl (And.intro rfl rfl))) ?_ | refine And.intro (And.intro rfl (And.intro rfl (Nat.le_of_ble_eq_true rfl))) ?_ | refine And.intro (And.intro rfl (And.intro rfl rfl)) ?_ | refine And.intro trivial ?_ | refine CmpW.t rfl ?_ | refine CmpW.f rfl ?_))
        cases hy : pre s (b + 1 + k + j) [35] with
        | true =>
          have hle3 := pre_le hy (by simp)
          simp only [List.length_cons, List.length_nil] at hle3
          rw [if_pos hy] at hc'
          refine CallW.meth 0 (take_yes 1 rfl hy hle3 (by omega) _) rfl rfl rfl rfl rfl rfl ?_
          (repeat (first | refine And.intro rfl ?_ | refine Exists.intro _ (And.intro (wrap_i64 (by first | omega | (simp; done) | (simp; omega)) (by first | omega | (simp; done) | (simp; omega))) ?_) | refine Exists.intro _ (And.intro rfl ?_) | refine And.intro (fun _ => ?_) (fun h => Bool.noConfusion h) | refine And.intro (fun h => Bool.noConfusion h) (fun _ => ?_) | refine And.intro (And.intro (by decide) (by decide)) ?_ | refine And.intro (And.intro (Nat.le_of_ble_eq_true rfl) (Nat.le_of_ble_eq_true rfl)) ?_ | refine And.intro (And.intro rfl (And.intro rfl (And.intro rfl rfl))) ?_ | refine And.intro (And.intro rfl (And.intro rfl (Nat.le_of_ble_eq_true rfl))) ?_ | refine And.intro (And.intro rfl (And.intro rfl rfl)) ?_ | refine And.intro trivial ?_ | refine CmpW.t rfl ?_ | refine CmpW.f rfl ?_))
          refine ⟨n', _, 2, by omega, by (repeat (first | exact Fgt.nil | refine Fgt.keep ?_ | refine Fgt.drop ?_)), j + 1, by omega, by omega, ?_, rfl, rfl⟩
          rw [hc', show b + 1 + k + (j + 1) = b + 1 + k + j + 1 by omega]; omega
        | false =>
          rw [if_neg (by simp [hy])] at hc'
          have hjz : cntN s 35 s.length (b + 1 + k) = j := by omega
          rw [hjz]
          refine CallW.meth 0 (take_no hy hj _) rfl rfl rfl rfl rfl rfl ?_
          (repeat (first | refine And.intro rfl ?_ | refine Exists.intro _ (And.intro (wrap_i64 (by first | omega | (simp; done) | (simp; omega)) (by first | omega | (simp; done) | (simp; omega))) ?_) | refine Exists.intro _ (And.intro rfl ?_) | refine And.intro (fun _ => ?_) (fun h => Bool.noConfusion h) | refine And.intro (fun h => Bool.noConfusion h) (fun _ => ?_) | refine And.intro (And.intro (by decide) (by decide)) ?_ | refine And.intro (And.intro (Nat.le_of_ble_eq_true rfl) (Nat.le_of_ble_eq_true rfl)) ?_ | refine And.intro (And.intro rfl (And.intro rfl (And.intro rfl rfl))) ?_ | refine And.intro (And.intro rfl (And.intro rfl (Nat.le_of_ble_eq_true rfl))) ?_ | refine And.intro (And.intro rfl (And.intro rfl rfl)) ?_ | refine And.intro trivial ?_ | refine CmpW.t rfl ?_ | refine CmpW.f rfl ?_))
          by_cases h0 : k + j = 0
          · refine CmpW.t (by simp; omega) ?_
            (repeat (first | refine And.intro rfl ?_ | refine Exists.intro _ (And.intro (wrap_i64 (by first | omega | (simp; done) | (simp; omega)) (by first | omega | (simp; done) | (simp; omega))) ?_) | refine Exists.intro _ (And.intro rfl ?_) | refine And.intro (fun _ => ?_) (fun h => Bool.noConfusion h) | refine And.intro (fun h => Bool.noConfusion h) (fun _ => ?_) | refine And.intro (And.intro (by decide) (by decide)) ?_ | refine And.intro (And.intro (Nat.le_of_ble_eq_true rfl) (Nat.le_of_ble_eq_true rfl)) ?_ | refine And.intro (And.intro rfl (And.intro rfl (And.intro rfl rfl))) ?_ | refine And.intro (And.intro rfl (And.intro rfl (Nat.le_of_ble_eq_true rfl))) ?_ | refine And.intro (And.intro rfl (And.intro rfl rfl)) ?_ | refine And.intro trivial ?_ | refine CmpW.t rfl ?_ | refine CmpW.f rfl ?_))
            refine CallW.of1 0 (fail_does s _ ver) rfl rfl rfl rfl ?_
            rintro ae O ⟨rfl, rfl⟩
            refine ⟨_, rfl, rfl, rfl, ?_⟩
            (repeat (first | refine And.intro rfl ?_ | refine Exists.intro _ (And.intro (wrap_i64 (by first | omega | (simp; done) | (simp; omega)) (by first | omega | (simp; done) | (simp; omega))) ?_) | refine Exists.intro _ (And.intro rfl ?_) | refine And.intro (fun _ => ?_) (fun h => Bool.noConfusion h) | refine And.intro (fun h => Bool.noConfusion h) (fun _ => ?_) | refine And.intro (And.intro (by decide) (by decide)) ?_ | refine And.intro (And.intro (Nat.le_of_ble_eq_true rfl) (Nat.le_of_ble_eq_true rfl)) ?_ | refine And.intro (And.intro rfl (And.intro rfl (And.intro rfl rfl))) ?_ | refine And.intro (And.intro rfl (And.intro rfl (Nat.le_of_ble_eq_true rfl))) ?_ | refine And.intro (And.intro rfl (And.intro rfl rfl)) ?_ | refine And.intro trivial ?_ | refine CmpW.t rfl ?_ | refine CmpW.f rfl ?_))
            refine ⟨by simp, ?_⟩
            simp only [if_pos h0]
          · refine CmpW.f (by simp; omega) ?_
            (repeat (first | refine And.intro rfl ?_ | refine Exists.intro _ (And.intro (wrap_i64 (by first | omega | (simp; done) | (simp; omega)) (by first | omega | (simp; done) | (simp; omega))) ?_) | refine Exists.intro _ (And.intro rfl ?_) | refine And.intro (fun _ => ?_) (fun h => Bool.noConfusion h) | refine And.intro (fun h => Bool.noConfusion h) (fun _ => ?_) | refine And.intro (And.intro (by decide) (by decide)) ?_ | refine And.intro (And.intro (Nat.le_of_ble_eq_true rfl) (Nat.le_of_ble_eq_true rfl)) ?_ | refine And.intro (And.intro rfl (And.intro rfl (And.intro rfl rfl))) ?_ | refine And.intro (And.intro rfl (And.intro rfl (Nat.le_of_ble_eq_true rfl))) ?_ | refine And.intro (And.intro rfl (And.intro rfl rfl)) ?_ | refine And.intro trivial ?_ | refine CmpW.t rfl ?_ | refine CmpW.f rfl ?_))
            refine RetW.plain (by simp) ?_
            simp only [if_neg h0]
            exact ⟨trivial, rfl⟩
end Go.Proofs.YtjbkhjjaajhjaaaDoor
