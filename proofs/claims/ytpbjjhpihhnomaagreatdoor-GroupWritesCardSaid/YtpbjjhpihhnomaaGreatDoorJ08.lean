/- The reader of patterns: affixes. -/
import Derived.Test.YtpbjjhpihhnomaaGreatDoorJ01
import Derived.Test.YtpbjjhpihhnomaaGreatDoorJ06
set_option linter.unusedVariables false
set_option linter.unusedSimpArgs false
set_option maxRecDepth 100000
set_option maxHeartbeats 4000000

namespace Go.Proofs.YtpbjjhpihhnomaaGreatDoor
open Go Go.Abs
set_option linter.unusedVariables false
set_option linter.unusedSimpArgs false
namespace Gpl
structure Part where
  kind : Nat
  text : List UInt8
def cutL (mo : Nat) : Nat → Nat → List Nat → List Nat
  | 0, n, acc => if 0 < n then n :: acc else acc
  | f + 1, n, acc => if mo < n then cutL mo f (n - mo) (mo :: acc) else if 0 < n then n :: acc else acc
def cutsF (n : Nat) (last more least : Int) : List Nat :=
  if last < 1 ∨ (n : Int) - (if 0 < least then least else 0) < last then [n]
  else cutL (if more < 1 then last else more).toNat n (n - last.toNat) [last.toNat]
def wrG {α : Type} (f : List α → List UInt8) (comma : List UInt8) : Bool → List α → List Nat → List Part
  | _, _, [] => []
  | first, w, n :: ns => (if first then [] else [⟨2, comma⟩]) ++ (if 0 < n then [⟨1, f (w.take n)⟩] else []) ++ wrG f comma false (w.drop n) ns
def lwG {α : Type} (d : α → List UInt8) (comma : List UInt8) (B : Nat → Bool) : Bool → List UInt8 → List α → List Part
  | _, run, [] => if run = [] then [] else [⟨1, run⟩]
  | first, run, x :: w => if !first && B (w.length + 1) then ⟨1, run⟩ :: ⟨2, comma⟩ :: lwG d comma B false (d x) w else lwG d comma B false (run ++ d x) w
theorem lwG_run {α : Type} (d : α → List UInt8) (comma : List UInt8) (B : Nat → Bool) : ∀ (a b : List α) (run : List UInt8), (∀ k, k < a.length → B (b.length + (a.length - k)) = false) →
    lwG d comma B false run (a ++ b) = lwG d comma B false (run ++ a.flatMap d) b
  | [], b, run, h => by simp
  | x :: a, b, run, h => by
    have h0 := h 0 (by simp)
    have e : (a ++ b).length + 1 = b.length + ((x :: a).length - 0) := by simp; omega
    simp only [List.cons_append, lwG]
    rw [e, h0]
    simp only [Bool.not_false, Bool.and_false, Bool.false_eq_true, if_false]
    rw [lwG_run d comma B a b (run ++ d x) (fun k hk => by
      have := h (k + 1) (by simp; omega)
      simpa [Nat.add_sub_add_right] using this)]
    simp
theorem lwG_groups {α : Type} (d : α → List UInt8) (hd : ∀ x, d x ≠ []) (comma : List UInt8) (B : Nat → Bool) : ∀ (ns : List Nat) (w : List α) (run : List UInt8), w.length = ns.sum → (∀ n ∈ ns, 0 < n) →
    (∀ (p s : List Nat), ns = p ++ s → s ≠ [] → B s.sum = true) → (∀ (p s : List Nat) (n k : Nat), ns = p ++ n :: s → 0 < k → k < n → B (s.sum + k) = false) → ns ≠ [] →
    lwG d comma B false run w = ⟨1, run⟩ :: wrG (fun l => l.flatMap d) comma false w ns
  | [], w, run, _, _, _, _, h => absurd rfl h
  | n :: ns, w, run, hw, hpos, hB, hN, _ => by
    have hn := hpos n (by simp)
    have hsum : w.length = n + ns.sum := by simpa using hw
    obtain ⟨x, w', rfl⟩ : ∃ x w', w = x :: w' := by
      cases w with
      | nil => simp at hsum; omega
      | cons x w' => exact ⟨x, w', rfl⟩
    have hb : B (w'.length + 1) = true := by
      have := hB [] (n :: ns) rfl (by simp)
      have e : w'.length + 1 = (n :: ns).sum := by simpa using hw
      rw [e]; exact this
    have hlw : lwG d comma B false run (x :: w') = ⟨1, run⟩ :: ⟨2, comma⟩ :: lwG d comma B false (d x) w' := by
      simp only [lwG]; rw [hb]; rfl
    rw [hlw]
    have hsplit : w' = w'.take (n - 1) ++ w'.drop (n - 1) := (List.take_append_drop _ _).symm
    have hl1 : (w'.take (n - 1)).length = n - 1 := by rw [List.length_take]; simp at hsum; omega
    have hl2 : (w'.drop (n - 1)).length = ns.sum := by rw [List.length_drop]; simp at hsum; omega
    have hrun := lwG_run d comma B (w'.take (n - 1)) (w'.drop (n - 1)) (d x) (fun k hk => by
      rw [hl1] at hk ⊢
      rw [hl2]
      exact hN [] ns n (n - 1 - k) rfl (by omega) (by omega))
    rw [← hsplit] at hrun
    rw [hrun]
    have htake : (x :: w').take n = x :: w'.take (n - 1) := by
      cases n with
      | zero => omega
      | succ n => simp
    have hdrop : (x :: w').drop n = w'.drop (n - 1) := by
      cases n with
      | zero => omega
      | succ n => simp
    simp only [wrG, hn, if_true, htake, hdrop, Bool.false_eq_true, if_false, List.flatMap_cons, List.cons_append, List.nil_append]
    congr 2
    cases ns with
    | nil =>
      have : w'.drop (n - 1) = [] := List.eq_nil_of_length_eq_zero (by simpa using hl2)
      rw [this]
      have hne : d x ++ List.flatMap d (List.take (n - 1) w') ≠ [] := by simp [hd x]
      simp [lwG, wrG, hne]
    | cons m ns =>
      exact lwG_groups d hd comma B (m :: ns) _ _ hl2 (fun z hz => hpos z (by simp [hz])) (fun p s h hs => hB (n :: p) s (by rw [h]; rfl) hs) (fun p s z k h => hN (n :: p) s z k (by rw [h]; rfl)) (by simp)
theorem cutL_sum (mo : Nat) (hmo : 0 < mo) : ∀ (f n : Nat) (acc : List Nat), n ≤ f → (cutL mo f n acc).sum = n + acc.sum
  | 0, n, acc, h => by
    have : n = 0 := by omega
    subst this; simp [cutL]
  | f + 1, n, acc, h => by
    unfold cutL
    split
    · rw [cutL_sum mo hmo f _ _ (by omega)]; simp; omega
    · split
      · simp
      · have : n = 0 := by omega
        subst this; simp
theorem cutL_form (mo : Nat) (hmo : 0 < mo) : ∀ (f n : Nat) (acc : List Nat), n ≤ f → ∃ (r q : Nat), cutL mo f n acc = (if 0 < n then r :: (List.replicate q mo ++ acc) else acc) ∧ (0 < n → 0 < r ∧ r ≤ mo ∧ n = r + q * mo)
  | 0, n, acc, h => by
    have : n = 0 := by omega
    subst this; exact ⟨0, 0, by simp [cutL], fun h => absurd h (by omega)⟩
  | f + 1, n, acc, h => by
    unfold cutL
    by_cases h1 : mo < n
    · obtain ⟨r, q, e1, e2⟩ := cutL_form mo hmo f (n - mo) (mo :: acc) (by omega)
      obtain ⟨a1, a2, a3⟩ := e2 (by omega)
      refine ⟨r, q + 1, ?_, fun _ => ⟨a1, a2, by rw [Nat.add_mul, Nat.one_mul]; omega⟩⟩
      rw [if_pos h1, e1, if_pos (by omega), if_pos (by omega), List.replicate_succ', List.append_assoc]; rfl
    · rw [if_neg h1]
      by_cases h2 : 0 < n
      · exact ⟨n, 0, by simp [h2], fun _ => ⟨h2, by omega, by simp⟩⟩
      · exact ⟨0, 0, by simp [h2], fun h => absurd h h2⟩
def bnd (last mo : Nat) (left : Nat) : Bool := decide (left = last) || (decide (last < left) && decide ((left - last) % mo = 0))
theorem sum_rep (q mo last : Nat) : (List.replicate q mo ++ [last]).sum = q * mo + last := by
  induction q with
  | zero => simp
  | succ q ih => simp only [List.replicate_succ, List.cons_append, List.sum_cons, ih]; rw [Nat.add_mul]; omega
theorem bnd_yes (last mo q : Nat) : bnd last mo (q * mo + last) = true := by
  unfold bnd
  by_cases h : q * mo = 0
  · simp [h]
  · have : last < q * mo + last := by omega
    simp [this]
theorem bnd_no {last mo q k : Nat} (hk : 0 < k) (hkm : k < mo) : bnd last mo (q * mo + last + k) = false := by
  unfold bnd
  have h1 : q * mo + last + k ≠ last := by omega
  have h2 : (q * mo + last + k - last) % mo = k := by
    have : q * mo + last + k - last = k + q * mo := by omega
    rw [this, Nat.add_mul_mod_self_right, Nat.mod_eq_of_lt hkm]
  simp [h1, h2]; omega
theorem bnd_low {last mo k : Nat} (hk : k < last) : bnd last mo k = false := by
  unfold bnd
  have h1 : k ≠ last := by omega
  have h2 : ¬ last < k := by omega
  simp [h1, h2]
theorem lwG_none {α : Type} (d : α → List UInt8) (comma : List UInt8) (first : Bool) : ∀ (w : List α) (run : List UInt8), lwG d comma (fun _ => false) first run w = if run ++ w.flatMap d = [] then [] else [⟨1, run ++ w.flatMap d⟩]
  | [], run => by simp [lwG]
  | x :: w, run => by
    simp only [lwG, Bool.and_false, Bool.false_eq_true, if_false]
    rw [lwG_none d comma false w (run ++ d x)]
    simp
def lwF {α : Type} (d : α → List UInt8) (comma : List UInt8) (w : List α) (last more least : Int) : List Part :=
  lwG d comma (if 0 < last ∧ last + least ≤ w.length then bnd last.toNat (if more < 1 then last else more).toNat else fun _ => false) true [] w
theorem groups_eq {α : Type} (d : α → List UInt8) (hd : ∀ x, d x ≠ []) (comma : List UInt8) (w : List α) (last more least : Int) (hl : 1 ≤ least) :
    lwF d comma w last more least = wrG (fun l => l.flatMap d) comma true w (cutsF w.length last more least) := by
  unfold lwF cutsF
  by_cases hg : 0 < last ∧ last + least ≤ w.length
  · rw [if_pos hg, if_neg (show ¬ (last < 1 ∨ (w.length : Int) - (if 0 < least then least else 0) < last) by rw [if_pos (show 0 < least by omega)]; omega)]
    obtain ⟨hg1, hg2⟩ := hg
    obtain ⟨L, rfl⟩ : ∃ L : Nat, last = L := ⟨last.toNat, by omega⟩
    obtain ⟨mo, hmo, hmo2⟩ : ∃ mo : Nat, (if more < 1 then (L : Int) else more).toNat = mo ∧ 0 < mo := ⟨_, rfl, by split <;> omega⟩
    rw [hmo]
    simp only [Int.toNat_natCast]
    obtain ⟨r, q, e1, e2⟩ := cutL_form mo hmo2 w.length (w.length - L) [L] (by omega)
    obtain ⟨a1, a2, a3⟩ := e2 (by omega)
    rw [e1, if_pos (by omega)]
    have hL : 0 < L := by omega
    have hn : w.length = r + (q * mo + L) := by omega
    obtain ⟨x, w', rfl⟩ : ∃ x w', w = x :: w' := by
      cases w with
      | nil => simp at hn; omega
      | cons x w' => exact ⟨x, w', rfl⟩
    have hlw : lwG d comma (bnd L mo) true [] (x :: w') = lwG d comma (bnd L mo) false (d x) w' := by simp [lwG]
    rw [hlw]
    have hsplit : w' = w'.take (r - 1) ++ w'.drop (r - 1) := (List.take_append_drop _ _).symm
    have hl1 : (w'.take (r - 1)).length = r - 1 := by rw [List.length_take]; simp at hn; omega
    have hl2 : (w'.drop (r - 1)).length = q * mo + L := by rw [List.length_drop]; simp at hn; omega
    have hrun := lwG_run d comma (bnd L mo) (w'.take (r - 1)) (w'.drop (r - 1)) (d x) (fun k hk => by
      rw [hl1] at hk ⊢
      rw [hl2]
      exact bnd_no (by omega) (by omega))
    rw [← hsplit] at hrun
    rw [hrun]
    have htake : (x :: w').take r = x :: w'.take (r - 1) := by
      cases r with
      | zero => omega
      | succ r => simp
    have hdrop : (x :: w').drop r = w'.drop (r - 1) := by
      cases r with
      | zero => omega
      | succ r => simp
    have key := lwG_groups d hd comma (bnd L mo) (List.replicate q mo ++ [L]) (w'.drop (r - 1)) (d x ++ (w'.take (r - 1)).flatMap d) (by rw [hl2, sum_rep])
      (fun n hn => by
        rcases List.mem_append.1 hn with h | h
        · rw [List.eq_of_mem_replicate h]; exact hmo2
        · rw [List.mem_singleton.1 h]; exact hL)
      (fun p s h hs => by
        rcases List.append_eq_append_iff.1 h with ⟨t, h1, h2⟩ | ⟨t, h1, h2⟩
        · -- the last group alone
          cases t with
          | nil =>
            simp at h2
            rw [← h2]
            have := bnd_yes L mo 0
            simpa using this
          | cons y t =>
            simp at h2
            exact absurd h2.2.2 hs
        · rw [h2]
          have ht : t = List.replicate t.length mo := by
            apply List.eq_replicate_of_mem
            intro y hy
            have : y ∈ List.replicate q mo := by rw [h1]; simp [hy]
            exact List.eq_of_mem_replicate this
          rw [ht, sum_rep]
          exact bnd_yes L mo _)
      (fun p s n k h hk hkn => by
        rcases List.append_eq_append_iff.1 h with ⟨t, h1, h2⟩ | ⟨t, h1, h2⟩
        · cases t with
          | nil =>
            simp at h2
            obtain ⟨rfl, rfl⟩ := h2
            simp only [List.sum_nil, Nat.zero_add]
            exact bnd_low hkn
          | cons y t => simp at h2
        · cases t with
          | nil =>
            simp at h2
            obtain ⟨rfl, rfl⟩ := h2
            simp only [List.sum_nil, Nat.zero_add]
            exact bnd_low hkn
          | cons y t =>
            simp only [List.cons_append, List.cons.injEq] at h2
            obtain ⟨rfl, rfl⟩ := h2
            have hall : ∀ z ∈ n :: t, z = mo := fun z hz => by
              have : z ∈ List.replicate q mo := by rw [h1]; simp only [List.mem_append]; right; exact hz
              exact List.eq_of_mem_replicate this
            have ht : t = List.replicate t.length mo := List.eq_replicate_of_mem fun y hy => hall y (by simp [hy])
            have hnm : n = mo := hall n (by simp)
            rw [ht, sum_rep]
            exact bnd_no hk (by omega))
      (by simp)
    rw [key]
    simp only [wrG, a1, if_true, htake, hdrop, List.flatMap_cons, List.nil_append, List.cons_append]
  · rw [if_neg hg, if_pos (show last < 1 ∨ (w.length : Int) - (if 0 < least then least else 0) < last by rw [if_pos (show 0 < least by omega)]; omega)]
    rw [lwG_none]
    cases w with
    | nil => simp [wrG]
    | cons x w' =>
      have h1 : d x ++ w'.flatMap d ≠ [] := by simp [hd x]
      have h2 : (x :: w').take (w'.length + 1) = x :: w' := List.take_of_length_le (by simp)
      simp only [wrG, List.nil_append, List.flatMap_cons, List.length_cons, Nat.zero_lt_succ, if_true, List.append_nil, h2]
      rw [if_neg h1]
def commasP (l : List Part) : Nat := (l.filter fun p => p.kind == 2).length
def digitsP (l : List Part) : List UInt8 := (l.filter fun p => p.kind != 2).flatMap Part.text
theorem wrG_commas {α : Type} (f : List α → List UInt8) (comma : List UInt8) : ∀ (ns : List Nat) (w : List α) (first : Bool), commasP (wrG f comma first w ns) = ns.length - (if first && !ns.isEmpty then 1 else 0)
  | [], w, first => by simp [wrG, commasP]
  | n :: ns, w, first => by
    have ih := wrG_commas f comma ns (w.drop n) false
    simp only [commasP, Bool.false_and, Bool.false_eq_true, if_false, Nat.sub_zero] at ih
    cases first <;> by_cases hn : 0 < n <;> simp [wrG, commasP, hn, ih]
theorem digitsP_cons (p : Part) (l : List Part) : digitsP (p :: l) = (if p.kind = 2 then [] else p.text) ++ digitsP l := by
  unfold digitsP
  by_cases h : p.kind = 2
  · rw [List.filter_cons_of_neg (by simp [h]), if_pos h]; rfl
  · rw [List.filter_cons_of_pos (by simpa using h), if_neg h]; rfl
theorem wrG_digits {α : Type} (d : α → List UInt8) (comma : List UInt8) : ∀ (ns : List Nat) (w : List α) (first : Bool), ns.sum = w.length → digitsP (wrG (fun l => l.flatMap d) comma first w ns) = w.flatMap d
  | [], w, first, h => by
    have : w = [] := List.eq_nil_of_length_eq_zero (by simpa using h.symm)
    simp [wrG, digitsP, this]
  | n :: ns, w, first, h => by
    have ih := wrG_digits d comma ns (w.drop n) false (by rw [List.length_drop]; simp at h; omega)
    have e : w.flatMap d = (w.take n).flatMap d ++ (w.drop n).flatMap d := by rw [← List.flatMap_append, List.take_append_drop]
    rw [e, ← ih]
    have key : ∀ r : List Part, digitsP ((if 0 < n then [(⟨1, (w.take n).flatMap d⟩ : Part)] else []) ++ r) = (w.take n).flatMap d ++ digitsP r := fun r => by
      by_cases hn : 0 < n
      · rw [if_pos hn, List.singleton_append, digitsP_cons]; rfl
      · have : n = 0 := by omega
        subst this; rfl
    cases first
    · simp only [wrG, Bool.false_eq_true, if_false, List.cons_append, List.nil_append]
      rw [digitsP_cons, key]; rfl
    · simp only [wrG, if_true, List.nil_append]
      rw [key]
theorem cuts_sum {n : Nat} {last more least : Int} (hl : 1 ≤ least) : (cutsF n last more least).sum = n := by
  unfold cutsF
  rw [if_pos (show 0 < least by omega)]
  by_cases h : last < 1 ∨ (n : Int) - least < last
  · rw [if_pos h]; simp
  · rw [if_neg h, cutL_sum _ (by split <;> omega) n _ _ (by omega)]
    simp; omega
theorem cuts_many {n : Nat} {last more least : Int} (h1 : 1 ≤ last) (h2 : 1 ≤ more) (hl : 1 ≤ least) :
    ((cutsF n last more least).length : Int) - 1 = if last + least ≤ n then ((n : Int) - last + more - 1) / more else 0 := by
  unfold cutsF
  rw [if_pos (show 0 < least by omega)]
  by_cases hg : last + least ≤ n
  · rw [if_neg (by omega), if_pos hg, if_neg (show ¬ more < 1 by omega)]
    obtain ⟨L, rfl⟩ : ∃ L : Nat, last = L := ⟨last.toNat, by omega⟩
    obtain ⟨mo, rfl⟩ : ∃ mo : Nat, more = mo := ⟨more.toNat, by omega⟩
    simp only [Int.toNat_natCast]
    obtain ⟨r, q, e1, e2⟩ := cutL_form mo (by omega) n (n - L) [L] (by omega)
    obtain ⟨a1, a2, a3⟩ := e2 (by omega)
    rw [e1, if_pos (by omega)]
    simp only [List.length_cons, List.length_append, List.length_replicate, List.length_nil]
    have e3 : (n : Int) - L + mo - 1 = (r - 1 : Int) + (q + 1 : Int) * mo := by
      have : (n : Int) - L = (r : Int) + (q : Int) * mo := by
        have h3 : ((n - L : Nat) : Int) = ((r + q * mo : Nat) : Int) := by rw [a3]
        rw [Int.natCast_sub (by omega)] at h3
        rw [h3]; simp
      rw [this, Int.add_mul]; omega
    rw [e3, Int.add_mul_ediv_right _ _ (by omega), Int.ediv_eq_zero_of_lt (by omega) (by omega)]
    omega
  · rw [if_pos (by omega), if_neg hg]; simp
end Gpl
end Go.Proofs.YtpbjjhpihhnomaaGreatDoor

namespace Go.Proofs.YtpbjjhpihhnomaaGreatDoor
open Go Go.Abs
attribute [local irreducible] DrawW CallW RetW AC Does CmpW
set_option maxRecDepth 100000
theorem curN_le (s : List UInt8) : ∀ f a, a ≤ s.length → a + 2 * curN s f a ≤ s.length
  | 0, a, h => by simp [curN]; exact h
  | f + 1, a, h => by
    unfold curN
    split
    · rename_i hp
      have h1 := pre_le hp (by simp)
      simp only [List.length_cons, List.length_nil] at h1
      have := curN_le s f (a + 2) (by omega)
      omega
    · simpa using h
theorem signF_t {s : List UInt8} {a : Nat} (ha : a ≤ s.length) (h : (signF s a).2.1 = true) : a < (signF s a).2.2 ∧ (signF s a).2.2 ≤ s.length ∧ (signF s a).1.text = [] := by
  unfold signF at *
  split
  · rename_i hp; have h1 := pre_le hp (by simp); simp only [List.length_cons, List.length_nil] at h1; exact ⟨by simp, by omega, rfl⟩
  split
  · rename_i hp; have h1 := pre_le hp (by simp); simp only [List.length_cons, List.length_nil] at h1; exact ⟨by simp, by omega, rfl⟩
  split
  · rename_i hp; have h1 := pre_le hp (by simp); simp only [List.length_cons, List.length_nil] at h1; exact ⟨by simp, by omega, rfl⟩
  split
  · rename_i hp; have h1 := pre_le hp (by simp); simp only [List.length_cons, List.length_nil] at h1; exact ⟨by simp, by omega, rfl⟩
  rename_i h1 h2 h3 h4
  simp only [h1, h2, h3, h4, if_false, Bool.false_eq_true] at h
  have := curN_le s s.length a ha
  simp at h
  exact ⟨by simp; omega, this, rfl⟩
theorem signF_f {s : List UInt8} {a : Nat} (h : (signF s a).2.1 = false) : (signF s a).2.2 = a := by
  unfold signF at *
  split at h; · simp at h
  split at h; · simp at h
  split at h; · simp at h
  split at h; · simp at h
  rename_i h1 h2 h3 h4
  simp only [h1, h2, h3, h4, if_false, Bool.false_eq_true]
  simp at h
  omega
theorem quoL_le (s : List UInt8) : ∀ f a acc t b, a ≤ s.length → quoL s f a acc = some (t, b) → a < b ∧ b ≤ s.length ∧ t.length + a < acc.length + b
  | 0, a, acc, t, b, _, h => by simp [quoL] at h
  | f + 1, a, acc, t, b, ha, h => by
    unfold quoL at h
    split at h
    · cases h
    split at h
    · rename_i hp
      have h1 := pre_le hp (by simp)
      simp only [List.length_cons, List.length_nil] at h1
      have := quoL_le s f (a + 2) _ t b (by omega) h
      simp at this; omega
    split at h
    · rename_i hp
      have h1 := pre_le hp (by simp)
      simp only [List.length_cons, List.length_nil] at h1
      simp at h
      obtain ⟨rfl, rfl⟩ := h
      omega
    · have := quoL_le s f (a + 1) _ t b (by omega) h
      simp at this; omega
theorem quoF_le {s : List UInt8} {a : Nat} {t : List UInt8} {b : Nat} (ha : a ≤ s.length) (h : quoF s a = some (t, b)) : a < b ∧ b ≤ s.length ∧ t.length + a ≤ b := by
  unfold quoF at h
  split at h
  · rename_i hp
    have h1 := pre_le hp (by simp)
    simp only [List.length_cons, List.length_nil] at h1
    simp at h
    obtain ⟨rfl, rfl⟩ := h
    simp; omega
  · have := quoL_le s _ a [] t b ha h
    simp at this; omega
theorem litF_t {s : List UInt8} {a : Nat} {t : List UInt8} {b : Nat} (ha : a ≤ s.length) (h : litF s a = some ((t, true), b)) : a < b ∧ b ≤ s.length ∧ t.length + a ≤ b := by
  unfold litF at h
  split at h
  · rename_i hp
    have h1 := pre_le hp (by simp)
    simp only [List.length_cons, List.length_nil] at h1
    cases h2 : quoF s (a + 1) with
    | none => rw [h2] at h; simp at h
    | some r =>
      rw [h2] at h
      simp at h
      obtain ⟨rfl, rfl⟩ := h
      have := quoF_le (t := r.1) (b := r.2) (by omega) h2
      omega
  split at h
  · simp at h
  · rename_i hp
    simp only [not_or] at hp
    simp at h
    obtain ⟨rfl, rfl⟩ := h
    have h1 := dec_le (s.drop a)
    have h2 := dec_pos (s.drop a) (by intro e; have := congrArg List.length e; simp at this; omega)
    simp only [List.length_drop] at h1
    simp; omega
theorem litF_f {s : List UInt8} {a : Nat} {t : List UInt8} {b : Nat} (h : litF s a = some ((t, false), b)) : b = a := by
  unfold litF at h
  split at h
  · cases h2 : quoF s (a + 1) with
    | none => rw [h2] at h; simp at h
    | some r => rw [h2] at h; simp at h
  split at h
  · simp at h; exact h.2.symm
  · simp at h
def more (out : List Piece) (t : List UInt8) : List Piece := match out.getLast? with
  | some p => if p.kind = 0 then out.dropLast ++ [{ p with text := p.text ++ t }] else out ++ [⟨0, t, 0⟩]
  | none => [⟨0, t, 0⟩]
def affL (s : List UInt8) : Nat → Nat → List Piece → Option (List Piece × Nat)
  | 0, _, _ => none
  | f + 1, a, out => if (signF s a).2.1 then affL s f (signF s a).2.2 (out ++ [(signF s a).1]) else match litF s a with
    | none => none
    | some ((t, ok), b) => if !ok then some (out, b) else if t = [] then affL s f b out else affL s f b (more out t)
def affF (s : List UInt8) (a : Nat) : Option (List Piece × Nat) := affL s (s.length + 1 - a) a []
def affP (s : List UInt8) (ver : Nat) (r : Option (List Piece × Nat)) (ae : AEnd) (O : AHeap) : Prop := match r with
  | some (ps, b) => ae = .ret (.fsl (ps.map encP)) ∧ O = [some (rdr ver s b)]
  | none => ae = .panic (faultV s.length) ∧ O = [some (rdr ver s s.length)]
theorem encs_closed : ∀ out : List Piece, closedLL (out.map encP) = true
  | [] => rfl
  | p :: out => by
    have := encs_closed out
    simp [closedLL, encP, closedL, closed, this]
theorem snoc_cases {α : Type} (l : List α) : l = [] ∨ ∃ i p, l = i ++ [p] := by
  rcases List.eq_nil_or_concat l with h | ⟨i, p, h⟩
  · exact .inl h
  · exact .inr ⟨i, p, by rw [h]; simp⟩
theorem affix_does {m : Int} (s : List UInt8) (a : Nat) (ha : a ≤ s.length) (hs : s.length < 1000000) (ver : Nat) :
    Does Tryz.prog (GL m) 236 [.ptr 0 ver 0 0] [some (rdr ver s a)] (affP s ver (affF s a)) := by
  refine Does.body tab Tryz.func236 rfl rfl ?_
  refine gos ?_
  refine AC.own 3 166 3 rfl (by decide) fun v1 => ?_
  refine AC.loopC tab (fun n e h => ∃ b out rv, s.length < n + b ∧ b ≤ s.length ∧ out.length ≤ b ∧ (∀ p ∈ out, p.text.length ≤ b) ∧ affF s a = affL s n b out ∧ e = [.ptr 0 ver 0 0, .any, .any, .sl 1 rv] ++ List.replicate 56 .any ∧
    h = [some (rdr ver s b), some ⟨rv, 166, 3, out.map encP⟩]) (s.length + 1 - a) ⟨_, fgts, a, [], v1, by omega, ha, by simp, by simp, rfl, rfl, rfl⟩ ?_
  rintro n e h ⟨b, out, rv, hn, hb, hol, hot, hq, rfl, rfl⟩
  obtain ⟨n, rfl⟩ : ∃ m, n = m + 1 := ⟨n - 1, by omega⟩
  simp only [affL] at hq
  refine gos ?_
  refine CallW.meth 0 (sign_does s b hb (by omega) ver) rfl rfl rfl rfl rfl rfl ?_
  refine gos ?_
  intro v2
  refine gos ?_
  cases hsg : (signF s b).2.1 with
  | true =>
    obtain ⟨q1, q2, q3⟩ := signF_t hb hsg
    rw [if_pos hsg] at hq
    refine gos ?_
    intro v3
    refine gos ?_
    refine And.intro (And.intro (fun y hy => by rcases List.mem_singleton.1 hy with rfl; rfl) (fun y hy => by rcases List.mem_singleton.1 hy with rfl; rfl)) ?_; refine And.intro (And.intro rfl trivial) ?_
    refine gos ?_
    refine And.intro (by simp [maxLen, ti166]; omega) ?_
    intro v4
    refine gos ?_
    refine ⟨n, _, 2, by omega, fgts, (signF s b).2.2, out ++ [(signF s b).1], v4, by omega, q2, by simp; omega, ?_, hq, rfl, ?_⟩
    · intro p hp
      rcases List.mem_append.1 hp with hp | hp
      · have := hot p hp; omega
      · rcases List.mem_singleton.1 hp with rfl
        rw [q3]; simp
    · rw [List.map_append]; rfl
  | false =>
    have q1 := signF_f hsg
    rw [if_neg (by simp [hsg])] at hq
    rw [q1]
    refine gos ?_
    refine CallW.of1 0 (literal_does s b hb hs ver) rfl rfl rfl rfl ?_
    intro ae O hlit
    cases hl : litF s b with
    | none =>
      rw [hl] at hq hlit
      obtain ⟨rfl, rfl⟩ := hlit
      refine ⟨_, rfl, rfl, rfl, ?_⟩
      refine gos ?_
      refine ⟨by simp, ?_⟩
      rw [hq]
      exact ⟨rfl, rfl⟩
    | some r =>
      obtain ⟨⟨t, ok⟩, b'⟩ := r
      rw [hl] at hq hlit
      obtain ⟨rfl, rfl⟩ := hlit
      refine ⟨_, rfl, rfl, rfl, ?_⟩
      refine gos ?_
      cases ok with
      | false =>
        have q2 := litF_f hl
        subst q2
        simp only [Bool.not_false, if_true] at hq
        refine gos ?_
        refine RetW.wk (by simp) ?_ (Wk.row (k := 0) (i := 1) rfl rfl rfl ?_) ?_
        · rfl
        · exact encs_closed out
        · rw [hq]; exact ⟨rfl, rfl⟩
      | true =>
        obtain ⟨r1, r2, r3⟩ := litF_t hb hl
        simp only [Bool.not_true, Bool.false_eq_true, if_false] at hq
        refine gos ?_
        by_cases ht : t = []
        · rw [if_pos ht] at hq
          subst ht
          refine CmpW.t rfl ?_
          refine gos ?_
          refine ⟨n, _, 2, by omega, fgts, b', out, rv, by omega, r2, by omega, fun p hp => by have := hot p hp; omega, hq, rfl, rfl⟩
        · rw [if_neg ht] at hq
          refine CmpW.f (by simpa using ht) ?_
          refine gos ?_
          rcases snoc_cases out with rfl | ⟨init, p, rfl⟩
          · refine CmpW.f (by rfl) ?_
            refine gos ?_
            intro v3
            refine gos ?_
            refine And.intro (And.intro (fun y hy => by rcases List.mem_singleton.1 hy with rfl; rfl) (fun y hy => by rcases List.mem_singleton.1 hy with rfl; rfl)) ?_; refine And.intro (And.intro rfl trivial) ?_
            refine gos ?_
            intro v4
            refine gos ?_
            refine ⟨n, _, 2, by omega, fgts, b', [⟨0, t, 0⟩], v4, by omega, r2, by simp; omega, ?_, hq, rfl, rfl⟩
            intro p hp
            rcases List.mem_singleton.1 hp with rfl
            show t.length ≤ b'
            omega
          · have hol' : init.length + 1 ≤ b := by simpa using hol
            have hpt : p.text.length ≤ b := hot p (by simp)
            refine CmpW.t (by simp) ?_
            refine gos ?_
            refine And.intro (by simp; omega) ?_
            refine gos ?_
            refine Exists.intro (encP p) (And.intro (by simp) ?_)
            refine gos ?_
            by_cases hk : p.kind = 0
            · have hm : more (init ++ [p]) t = init ++ [{ p with text := p.text ++ t }] := by simp [more, hk]
              rw [hm] at hq
              refine CmpW.t (by simp [hk]) ?_
              refine gos ?_
              refine And.intro (by simp; omega) ?_
              refine gos ?_
              refine Exists.intro (encP p) (And.intro (by simp) ?_)
              refine gos ?_
              refine And.intro (by simp; omega) ?_
              refine gos ?_
              refine And.intro (by simp; omega) ?_
              refine gos ?_
              refine Exists.intro (encP p) (And.intro (by simp) ?_)
              refine gos ?_
              refine ⟨n, _, 2, by omega, fgts, b', _, rv, by omega, r2, by simp; omega, ?_, hq, rfl, ?_⟩
              · intro y hy
                rcases List.mem_append.1 hy with hy | hy
                · have := hot y (by simp [hy]); omega
                · rcases List.mem_singleton.1 hy with rfl
                  simp; omega
              · simp [encP, rdr]
            · have hm : more (init ++ [p]) t = init ++ [p] ++ [⟨0, t, 0⟩] := by simp [more, hk]
              rw [hm] at hq
              refine CmpW.f (by simpa using hk) ?_
              refine gos ?_
              intro v3
              refine gos ?_
              refine And.intro (And.intro (fun y hy => by rcases List.mem_singleton.1 hy with rfl; rfl) (fun y hy => by rcases List.mem_singleton.1 hy with rfl; rfl)) ?_; refine And.intro (And.intro rfl trivial) ?_
              refine gos ?_
              refine And.intro (by simp [maxLen, ti166]; omega) ?_
              intro v4
              refine gos ?_
              refine ⟨n, _, 2, by omega, fgts, b', _, v4, by omega, r2, by simp; omega, ?_, hq, rfl, ?_⟩
              · intro y hy
                rcases List.mem_append.1 hy with hy | hy
                · have := hot y hy; omega
                · rcases List.mem_singleton.1 hy with rfl
                  show t.length ≤ b'
                  omega
              · simp [encP, rdr, ti166]
end Go.Proofs.YtpbjjhpihhnomaaGreatDoor
