/- The world in which a law begins. -/
import Derived.Test.YtpipbjfcbbdicaaGreatDoorJ17
import Derived.Lib.ValidLaws
import Derived.Lib.MapLaws
import Derived.Lib.TrimUEq
import Derived.Test.YtpipbjfcbbdicaaGreatDoorJ16
import Derived.ProofKit
import Derived.Test.YtpipbjfcbbdicaaGreatDoorJ01
import Derived.Test.YtpipbjfcbbdicaaGreatDoorAbsC
set_option linter.unusedVariables false
set_option linter.unusedSimpArgs false
set_option maxRecDepth 100000
set_option maxHeartbeats 4000000

namespace Go.Proofs.YtpipbjfcbbdicaaGreatDoor
open Go Go.Abs

theorem whoF_pos {s : List UInt8} {a b : Nat} {N' : Num} (h : whoF s a Num.zero = some (N', b)) : 1 ≤ N'.hash + N'.mi := by
  unfold whoF at h
  simp only [Option.map_eq_some_iff, Prod.mk.injEq] at h
  obtain ⟨q, h1, rfl, _⟩ := h
  unfold grpF at h1
  split at h1
  · cases h1
  rename_i h0
  split at h1
  · simp at h1; subst h1; omega
  · split at h1
    · cases h1
    · simp at h1; subst h1; simp only; omega
  · split at h1
    · cases h1
    split at h1
    · simp at h1; subst h1; simp only; omega
    · simp at h1; subst h1; simp only; omega
  · cases h1
theorem numF_pos {s : List UInt8} {a : Nat} {r : Num × Nat} (h : numF s a = .ok r) : 1 ≤ r.1.hash + r.1.mi := by
  unfold numF at h
  split at h
  · cases h
  rename_i N b hw
  have hp := whoF_pos hw
  split at h
  · split at h
    · cases h
    · simp at h; subst h; exact hp
  · simp at h; subst h; exact hp
theorem patF_pos {s : List UInt8} {v : PatV} (h : patF s = .ok v) : 1 ≤ v.N.hash + v.N.mi := by
  unfold patF at h
  split at h
  · cases h
  split at h
  · cases h
  rename_i N a2 hN
  have hp := numF_pos hN
  split at h
  · cases h
  split at h
  · split at h
    · cases h
    split at h
    · cases h
    split at h
    · cases h
    unfold endE at h
    split at h
    · cases h
    · simp at h; subst h; exact hp
  · unfold endE at h
    split at h
    · cases h
    · simp at h; subst h; exact hp
theorem cpaE_pos {s : List UInt8} {v : PatV} (h : cpaE s = .ok v) : 1 ≤ v.N.mi := by
  unfold cpaE at h
  split at h
  · cases h
  rename_i w hw
  split at h
  · cases h
  rename_i hc
  simp at h; subst h
  have : 1 ≤ w.N.hash + w.N.mi := by
    unfold parE at hw
    split at hw
    · cases hw
    split at hw
    · cases hw
    split at hw
    · rename_i h3; simp at hw; subst hw; exact patF_pos h3
    · cases hw
  omega

theorem lrI_range (cur : Int) : ∀ (l : List TTxt) (z0 n0 z n : Nat), lrI cur z0 n0 l = some (z, n) → n0 ≤ n ∧ n ≤ n0 + l.length
  | [], z0, n0, z, n, h => by simp [lrI] at h; simp; omega
  | y :: l, z0, n0, z, n, h => by
    simp only [lrI] at h
    split at h
    · cases h
    split at h
    · cases h
    have := lrI_range cur l _ _ z n h
    simp only [List.length_cons]
    split at this <;> omega
/-- What is known of a row's texts, so far. -/
def stOk (cur : Int) (l : List TTxt) (k z n : Nat) : Prop :=
  (rowA cur l k).z = z ∧ ((k = 0 ∧ z = 0 ∧ n = 0) ∨ (1 ≤ k ∧ 1 ≤ z ∧ z ≤ 15 ∧ ((rowA cur l k).nb = true → n = k) ∧ ((rowA cur l k).nb = false → n = 0))) ∧ lrI cur 0 0 l = lrI cur z n (l.drop k)
theorem stOk_step {cur : Int} {l : List TTxt} {k z n : Nat} {x : TTxt} (hx : l[k]? = some x) (hg : catG l k = true) (h : stOk cur l k z n) (hr : rowK cur l k = true) : ∃ z' n', stOk cur l (k + 1) z' n' := by
  obtain ⟨h1, h2, h3⟩ := h
  have hR : rowR (rowA cur l k) cur x.text = true := by rw [← hr]; simp [rowK, hx]
  have hA : rowA cur l (k + 1) = rowS (rowA cur l k) x.text := by simp [rowA, hg, hx]
  unfold rowR at hR
  cases hE : cpaE x.text with
  | error e => rw [hE] at hR; cases hR
  | ok v =>
    rw [hE] at hR
    simp only [Bool.and_eq_true, Bool.not_eq_true', decide_eq_true_eq] at hR
    obtain ⟨hc, h60, hs⟩ := hR
    have hA2 : rowA cur l (k + 1) = fsV v := by rw [hA]; simp [rowS, hE, hc]
    have hmi := cpaE_mi hE
    have hps := cpaE_pos hE
    have hcl : 0 < z → v.N.mi = z ∧ noopF v = (rowA cur l k).nb := by
      intro hz
      unfold clash at hc
      rw [h1] at hc
      simp only [hz, decide_true, Bool.true_and, Bool.or_eq_false_iff, decide_eq_false_iff_not, Decidable.not_not] at hc
      exact hc
    refine ⟨v.N.mi, n + if noopF v then 1 else 0, by rw [hA2]; rfl, .inr ⟨by omega, hps, hmi, ?_, ?_⟩, ?_⟩
    · rw [hA2]
      intro hnb
      have hnb : noopF v = true := hnb
      rw [hnb]
      rcases h2 with ⟨rfl, _, rfl⟩ | ⟨hk, hz, _, h4, _⟩
      · rfl
      · have := (hcl (by omega)).2
        rw [h4 (by rw [← this]; exact hnb)]; rfl
    · rw [hA2]
      intro hnb
      have hnb : noopF v = false := hnb
      rw [hnb]
      rcases h2 with ⟨rfl, _, rfl⟩ | ⟨hk, hz, _, _, h5⟩
      · rfl
      · have := (hcl (by omega)).2
        rw [h5 (by rw [← this]; exact hnb)]; rfl
    · rw [h3, drop_cons' hx]
      simp only [lrI, hE]
      have e1 : (decide (0 < z) && decide (v.N.mi ≠ z)) = false := by
        by_cases hz : 0 < z
        · simp [(hcl hz).1]
        · simp [hz]
      have e2 : (!noopF v && !sdsF v cur 0) = false := by
        simp only [Bool.or_eq_true] at hs
        rcases hs with h | h <;> simp [h]
      rw [e1, e2, if_neg (by simp; exact h60)]
theorem stOk_zero (cur : Int) (l : List TTxt) : stOk cur l 0 0 0 := ⟨rfl, .inl ⟨rfl, rfl, rfl⟩, by simp⟩
theorem stOk_all {cur : Int} {l : List TTxt} (hg : ∀ j, j < l.length → catG l j = true) : ∀ k, k ≤ l.length → (∀ j, j < k → rowK cur l j = true) → ∃ z n, stOk cur l k z n
  | 0, _, _ => ⟨0, 0, stOk_zero cur l⟩
  | k + 1, hk, h => by
    obtain ⟨z, n, hs⟩ := stOk_all hg k (by omega) (fun j hj => h j (by omega))
    exact stOk_step (List.getElem?_eq_getElem (by omega)) (hg k (by omega)) hs (h k (by omega))
/-- Behind all texts. -/
theorem stOk_end {cur : Int} {l : List TTxt} {z n : Nat} (hl : 0 < l.length) (h : stOk cur l l.length z n) : lrI cur 0 0 l = some (z, n) ∧ (n = 0 ∨ n = l.length) ∧ z ≤ 15 ∧ (rowA cur l l.length).z = z ∧ ((rowA cur l l.length).nb = decide (0 < n)) := by
  obtain ⟨h1, h2, h3⟩ := h
  rcases h2 with ⟨h0, _⟩ | ⟨_, _, hz, h4, h5⟩
  · omega
  · rw [List.drop_of_length_le (Nat.le_refl _)] at h3
    refine ⟨by rw [h3]; rfl, ?_, hz, h1, ?_⟩
    · cases hb : (rowA cur l l.length).nb with
      | true => exact .inr (h4 hb)
      | false => exact .inl (h5 hb)
    · cases hb : (rowA cur l l.length).nb with
      | true => rw [h4 hb]; simp [hl]
      | false => rw [h5 hb]; simp
/-- From the page's side: each text is as it must be. -/
theorem rowK_of {cur : Int} {l : List TTxt} {z n : Nat} (hg : ∀ j, j < l.length → catG l j = true) (hI : lrI cur 0 0 l = some (z, n)) (hn : n = 0 ∨ n = l.length) :
    ∀ k, k ≤ l.length → (∀ j, j < k → rowK cur l j = true) := by
  intro k
  induction k with
  | zero => intro _ j hj; omega
  | succ k ih =>
    intro hk j hj
    by_cases hjk : j = k
    case neg => exact ih (by omega) j (by omega)
    subst hjk
    have hall := ih (by omega)
    obtain ⟨z1, n1, hs⟩ := stOk_all hg j (by omega) hall
    obtain ⟨x, hx⟩ : ∃ x, l[j]? = some x := ⟨_, List.getElem?_eq_getElem (by omega)⟩
    obtain ⟨h1, h2, h3⟩ := hs
    rw [hI, drop_cons' hx] at h3
    simp only [lrI] at h3
    cases hE : cpaE x.text with
    | error e => rw [hE] at h3; cases h3
    | ok v =>
      rw [hE] at h3
      simp only at h3
      split at h3
      · cases h3
      rename_i hc
      have hc : (decide (60 < x.text.length) || ((decide (0 < z1) && decide (v.N.mi ≠ z1)) || (!noopF v && !sdsF v cur 0))) = false := by simpa using hc
      simp only [Bool.or_eq_false_iff] at hc
      obtain ⟨c1, c2, c3⟩ := hc
      have hr := lrI_range cur _ _ _ z n h3.symm
      rw [List.length_drop] at hr
      have hcl : clash (rowA cur l j) v = false := by
        unfold clash
        rw [h1]
        by_cases hz : 0 < z1
        · have e1 : v.N.mi = z1 := by simpa [hz] using c2
          have e2 : noopF v = (rowA cur l j).nb := by
            rcases h2 with ⟨_, h0, _⟩ | ⟨hk1, _, _, h4, h5⟩
            · omega
            cases hb : (rowA cur l j).nb with
            | true =>
              have := h4 hb
              cases hv : noopF v with
              | true => rfl
              | false =>
                rw [hv] at hr
                simp only [Bool.false_eq_true, if_false] at hr
                omega
            | false =>
              have := h5 hb
              cases hv : noopF v with
              | false => rfl
              | true =>
                rw [hv] at hr
                simp only [if_true] at hr
                omega
          simp [e1, e2]
        · simp [hz]
      have e60 : x.text.length ≤ 60 := by simpa using c1
      have es : (noopF v || sdsF v cur 0) = true := by
        cases hv : noopF v with
        | true => rfl
        | false => rw [hv] at c3; simpa using c3
      simp [rowK, hx, rowR, hE, hcl, e60, es]
theorem order_pos {l : List TTxt} (h : orderF l = true) : 0 < l.length := by
  cases l with
  | nil => cases h
  | cons x l => simp
theorem order_cat {l : List TTxt} (h : orderF l = true) : ∀ j, j < l.length → catG l j = true := by
  have h2 := catsF_order l (fun _ => true)
  rw [h, show allB (fun _ => true) l.length = true from allB_t fun _ _ => rfl] at h2
  unfold catsF at h2
  simp only [Bool.and_true, Bool.and_self, Bool.and_eq_true] at h2
  exact allB_iff.1 h2.2
/-- How far the page shifts a row's numbers. -/
def rsh (cur : Int) (r : TRow) : Int := match lrI cur 0 0 r.texts with
  | some (z, n) => lrS r.mag z n
  | none => 0
def lrB (cur : Int) (r : TRow) : Bool := orderF r.texts && match lrI cur 0 0 r.texts with
  | some (_, n) => !(decide (n ≠ 0) && decide (n ≠ r.texts.length))
  | none => false
theorem row_law (cur : Int) (r : TRow) : rowB cur r = (inF r.mag 0 100 && lrB cur r) ∧ (rowB cur r = true → rowH cur r = rsh cur r) := by
  have key : (orderF r.texts = true → allB (rowK cur r.texts) r.texts.length = true → ∃ z n, lrI cur 0 0 r.texts = some (z, n) ∧ (n = 0 ∨ n = r.texts.length) ∧ z ≤ 15 ∧ (rowA cur r.texts r.texts.length).z = z ∧ ((rowA cur r.texts r.texts.length).nb = decide (0 < n))) := by
    intro ho ha
    obtain ⟨z, n, hs⟩ := stOk_all (order_cat ho) r.texts.length (Nat.le_refl _) (allB_iff.1 ha)
    exact ⟨z, n, stOk_end (order_pos ho) hs⟩
  have hB : rowB cur r = (inF r.mag 0 100 && (orderF r.texts && allB (rowK cur r.texts) r.texts.length)) := by unfold rowB; rw [catsF_order]
  refine ⟨?_, fun h => ?_⟩
  · rw [hB]
    congr 1
    unfold lrB
    cases ho : orderF r.texts with
    | false => rfl
    | true =>
      rw [Bool.true_and, Bool.true_and, Bool.eq_iff_iff]
      constructor
      · intro ha
        obtain ⟨z, n, h1, h2, _⟩ := key ho ha
        rw [h1]
        rcases h2 with h2 | h2 <;> simp [h2]
      · intro h
        cases hI : lrI cur 0 0 r.texts with
        | none => rw [hI] at h; cases h
        | some q =>
          obtain ⟨z, n⟩ := q
          rw [hI] at h
          have hn : n = 0 ∨ n = r.texts.length := by
            by_cases h0 : n = 0
            · exact .inl h0
            · simp [h0] at h; exact .inr h
          exact allB_t (rowK_of (order_cat ho) hI hn _ (Nat.le_refl _))
  · rw [hB] at h
    simp only [Bool.and_eq_true] at h
    obtain ⟨z, n, h1, _, hz, h4, h5⟩ := key h.2.1 h.2.2
    have hm : 0 ≤ r.mag ∧ r.mag ≤ 100 := by simpa [inF] using h.1
    unfold rowH shiftF rsh lrS
    rw [h1, h4, h5]
    by_cases h0 : 0 < n
    · simp [h0]
    · simp only [h0, decide_false, Bool.false_eq_true, if_false]
      rw [wrap_i64 (n := r.mag - (z : Int)) (by omega) (by omega), wrap_i64 (n := r.mag - (z : Int) + 1) (by omega) (by omega)]
end Go.Proofs.YtpipbjfcbbdicaaGreatDoor

namespace Go.Proofs.YtpipbjfcbbdicaaGreatDoor
open Go Go.Abs

section
variable {α : Type}
/-- The key before a place. -/
def prevK (key : α → List UInt8) (last : List UInt8) (l : List α) : Nat → List UInt8
  | 0 => last
  | i + 1 => match l[i]? with
    | some y => key y
    | none => last
def chain (key : α → List UInt8) (ok : α → Bool) : List UInt8 → List α → Bool
  | _, [] => true
  | last, x :: l => if ok x && !leB (key x) last then chain key ok (key x) l else false
theorem prevK_cons (key : α → List UInt8) (last : List UInt8) (x : α) (l : List α) : ∀ i, i ≤ l.length → prevK key last (x :: l) (i + 1) = prevK key (key x) l i
  | 0, _ => rfl
  | i + 1, h => by
    simp only [prevK, List.getElem?_cons_succ]
    rw [List.getElem?_eq_getElem (by omega)]
theorem chain_iff (key : α → List UInt8) (ok : α → Bool) : ∀ (l : List α) (last : List UInt8), chain key ok last l = true ↔ ∀ (i : Nat) (x : α), l[i]? = some x → ok x = true ∧ leB (key x) (prevK key last l i) = false
  | [], last => by simp [chain]
  | x :: l, last => by
    unfold chain
    constructor
    · intro h i y hy
      split at h
      · rename_i hc
        simp only [Bool.and_eq_true, Bool.not_eq_true'] at hc
        cases i with
        | zero =>
          simp only [List.getElem?_cons_zero, Option.some.injEq] at hy
          subst hy
          exact hc
        | succ i =>
          rw [List.getElem?_cons_succ] at hy
          rw [prevK_cons _ _ _ _ _ (by have := (List.getElem?_eq_some_iff.1 hy).1; omega)]
          exact (chain_iff key ok l (key x)).1 h i y hy
      · cases h
    · intro h
      have h0 := h 0 x rfl
      simp only [prevK] at h0
      rw [if_pos (by simp [h0])]
      refine (chain_iff key ok l (key x)).2 fun i y hy => ?_
      have hl := (List.getElem?_eq_some_iff.1 hy).1
      rw [← prevK_cons key last x l i (by omega)]
      exact h (i + 1) y (by rw [List.getElem?_cons_succ]; exact hy)
/-- A chain from nothing, by places. -/
theorem chain_all (key : α → List UInt8) (ok : α → Bool) (hk : ∀ x, ok x = true → key x ≠ []) (l : List α) (p : Nat → Bool)
    (hp : ∀ (i : Nat) (x : α), l[i]? = some x → p i = (ok x && (decide (i = 0) || match l[i - 1]? with
      | some y => Op.bytesLess (key y) (key x)
      | none => false))) : allB p l.length = chain key ok [] l := by
  rw [Bool.eq_iff_iff, allB_iff, chain_iff]
  have one : ∀ (i : Nat) (x : α), l[i]? = some x → (p i = true ↔ ok x = true ∧ leB (key x) (prevK key [] l i) = false) := by
    intro i x hx
    rw [hp i x hx, Bool.and_eq_true]
    refine and_congr_right fun ho => ?_
    cases i with
    | zero => simp [prevK, leB_nil (hk x ho)]
    | succ i =>
      have hl := (List.getElem?_eq_some_iff.1 hx).1
      obtain ⟨y, hy⟩ : ∃ y, l[i]? = some y := ⟨_, List.getElem?_eq_getElem (by omega)⟩
      simp only [Nat.add_sub_cancel, hy, prevK, bl_tri]
      simp
  constructor
  · intro h i x hx
    exact (one i x hx).1 (h i (List.getElem?_eq_some_iff.1 hx).1)
  · intro h i hi
    exact (one i _ (List.getElem?_eq_getElem hi)).2 (h i _ (List.getElem?_eq_getElem hi))
end
theorem monL_chain : ∀ (l : List TCur) (last : List UInt8), monL last l = chain TCur.code lmonB last l
  | [], _ => rfl
  | c :: l, last => by
    unfold monL chain
    rw [monL_chain l, Bool.and_comm]
theorem code_ne {c : TCur} (h : moneyB c = true) : c.code ≠ [] := by
  unfold moneyB codeF at h
  simp only [Bool.and_eq_true, decide_eq_true_eq] at h
  intro e
  rw [e] at h
  simp at h
theorem cur_law (l : List TCur) : lmoneyF l = (decide (l.length ≤ 40) && allB (curP l) l.length) := by
  have e : lmonB = moneyB := funext money_law
  rw [lmoneyF, monL_chain, e, Bool.and_comm, chain_all TCur.code moneyB (fun x hx => code_ne hx) l (curP l) (fun i x hx => by unfold curP; rw [hx]; cases l[i - 1]? <;> rfl)]
def untB (u : TUnt) : Bool := nameF u.name && placedF u.texts 1
theorem untL_chain : ∀ (l : List TUnt) (last : List UInt8), untL' last l = chain TUnt.name untB last l
  | [], _ => rfl
  | u :: l, last => by
    unfold untL' chain untB
    rw [untL_chain l]
    cases nameF u.name <;> cases leB u.name last <;> cases placedF u.texts 1 <;> rfl
theorem name_ne {u : TUnt} (h : untB u = true) : u.name ≠ [] := by
  unfold untB nameF at h
  simp only [Bool.and_eq_true, decide_eq_true_eq] at h
  exact h.1.1.1
theorem unt_law (l : List TUnt) : lunitsF l = (decide (l.length ≤ 40) && allB (untP l) l.length) := by
  rw [lunitsF, untL_chain, Bool.and_comm, chain_all TUnt.name untB (fun x hx => name_ne hx) l (untP l) (fun i x hx => by
    unfold untP untB
    rw [hx]
    simp only [plc_order, Bool.and_assoc]
    cases l[i - 1]? <;> rfl)]

/-- The size and the shift before a place. -/
def prevM (mag : Int) (l : List TRow) : Nat → Int
  | 0 => mag
  | i + 1 => match l[i]? with
    | some y => y.mag
    | none => mag
def prevH (cur sh : Int) (l : List TRow) : Nat → Int
  | 0 => sh
  | i + 1 => match l[i]? with
    | some y => rsh cur y
    | none => sh
theorem prevM_cons (mag : Int) (x : TRow) (l : List TRow) : ∀ i, i ≤ l.length → prevM mag (x :: l) (i + 1) = prevM x.mag l i
  | 0, _ => rfl
  | i + 1, h => by
    simp only [prevM, List.getElem?_cons_succ]
    rw [List.getElem?_eq_getElem (by omega)]
theorem prevH_cons (cur sh : Int) (x : TRow) (l : List TRow) : ∀ i, i ≤ l.length → prevH cur sh (x :: l) (i + 1) = prevH cur (rsh cur x) l i
  | 0, _ => rfl
  | i + 1, h => by
    simp only [prevH, List.getElem?_cons_succ]
    rw [List.getElem?_eq_getElem (by omega)]
theorem lrL_cons (cur mag sh : Int) (r : TRow) (l : List TRow) : lrL cur mag sh (r :: l) = (decide (mag < r.mag) && (decide (r.mag ≤ 100) && (lrB cur r && (decide (sh ≤ rsh cur r) && lrL cur r.mag (rsh cur r) l)))) := by
  cases hI : lrI cur 0 0 r.texts with
  | none =>
    have b : lrB cur r = false := by simp [lrB, hI]
    rw [b]
    simp only [lrL, hI]
    simp
  | some q =>
    obtain ⟨z, n⟩ := q
    have b : lrB cur r = (orderF r.texts && !(decide (n ≠ 0) && decide (n ≠ r.texts.length))) := by simp [lrB, hI]
    have s : rsh cur r = lrS r.mag z n := by simp [rsh, hI]
    rw [b, s]
    simp only [lrL, hI]
    by_cases h1 : r.mag ≤ mag
    · have : ¬ mag < r.mag := by omega
      simp [h1, this]
    by_cases h2 : 100 < r.mag
    · have : ¬ r.mag ≤ 100 := by omega
      simp [h2, this]
    have h1' : mag < r.mag := by omega
    have h2' : r.mag ≤ 100 := by omega
    cases ho : orderF r.texts with
    | false => simp
    | true =>
    simp only [h1, h2, h1', h2', decide_false, decide_true, Bool.not_true, Bool.or_self, Bool.false_eq_true, if_false, Bool.true_and]
    by_cases hs : lrS r.mag z n < sh
    · have : ¬ sh ≤ lrS r.mag z n := by omega
      simp [hs, this]
    · have : sh ≤ lrS r.mag z n := by omega
      cases hb : (decide (n ≠ 0) && decide (n ≠ r.texts.length)) with
      | true => simp
      | false => simp [hs, this]
theorem lrL_iff (cur : Int) : ∀ (l : List TRow) (mag sh : Int), lrL cur mag sh l = true ↔ ∀ (i : Nat) (r : TRow), l[i]? = some r → prevM mag l i < r.mag ∧ r.mag ≤ 100 ∧ lrB cur r = true ∧ prevH cur sh l i ≤ rsh cur r
  | [], mag, sh => by simp [lrL]
  | x :: l, mag, sh => by
    rw [lrL_cons]
    simp only [Bool.and_eq_true, decide_eq_true_eq]
    constructor
    · rintro ⟨h1, h2, h3, h4, h5⟩ i y hy
      cases i with
      | zero =>
        simp only [List.getElem?_cons_zero, Option.some.injEq] at hy
        subst hy
        exact ⟨h1, h2, h3, h4⟩
      | succ i =>
        rw [List.getElem?_cons_succ] at hy
        have hl := (List.getElem?_eq_some_iff.1 hy).1
        rw [prevM_cons _ _ _ _ (by omega), prevH_cons _ _ _ _ _ (by omega)]
        exact (lrL_iff cur l x.mag (rsh cur x)).1 h5 i y hy
    · intro h
      obtain ⟨h1, h2, h3, h4⟩ := h 0 x rfl
      refine ⟨h1, h2, h3, h4, (lrL_iff cur l x.mag (rsh cur x)).2 fun i y hy => ?_⟩
      have hl := (List.getElem?_eq_some_iff.1 hy).1
      rw [← prevM_cons mag x l i (by omega), ← prevH_cons cur sh x l i (by omega)]
      exact h (i + 1) y (by rw [List.getElem?_cons_succ]; exact hy)
theorem rows_law (l : List TRow) (cur : Int) : lrowsF l cur = rowsF l cur := by
  unfold lrowsF rowsF
  by_cases h16 : 16 < l.length
  · have : ¬ l.length ≤ 16 := by omega
    simp [h16, this]
  have h16' : l.length ≤ 16 := by omega
  rw [if_neg h16]
  simp only [h16', decide_true, Bool.true_and]
  rw [Bool.eq_iff_iff, lrL_iff, allB_iff]
  constructor
  · intro h
    have mpos : ∀ (i : Nat) (r : TRow), l[i]? = some r → 0 ≤ r.mag := by
      intro i
      induction i with
      | zero =>
        intro r hr
        have := (h 0 r hr).1
        simp only [prevM] at this
        omega
      | succ i ih =>
        intro r hr
        have hl := (List.getElem?_eq_some_iff.1 hr).1
        obtain ⟨y, hy⟩ : ∃ y, l[i]? = some y := ⟨_, List.getElem?_eq_getElem (by omega)⟩
        have h1 := ih y hy
        have := (h (i + 1) r hr).1
        simp only [prevM, hy] at this
        omega
    have hB : ∀ (i : Nat) (r : TRow), l[i]? = some r → rowB cur r = true := by
      intro i r hr
      obtain ⟨_, h2, h3, _⟩ := h i r hr
      rw [(row_law cur r).1, h3]
      have := mpos i r hr
      simp [inF]; omega
    intro j hj
    obtain ⟨r, hr⟩ : ∃ r, l[j]? = some r := ⟨_, List.getElem?_eq_getElem hj⟩
    obtain ⟨h1, h2, h3, h4⟩ := h j r hr
    have hb := hB j r hr
    have hh := (row_law cur r).2 hb
    unfold rowP
    rw [hr]
    simp only [hb, Bool.true_and, hh]
    cases j with
    | zero =>
      simp only [prevH] at h4
      simp [rowLast, h4]
    | succ j =>
      obtain ⟨y, hy⟩ : ∃ y, l[j]? = some y := ⟨_, List.getElem?_eq_getElem (by omega)⟩
      have hby := (row_law cur y).2 (hB j y hy)
      simp only [prevH, hy] at h4
      simp only [prevM, hy] at h1
      simp only [rowLast, hy, hby, Nat.add_sub_cancel]
      simp [h1, h4]
  · intro h i r hr
    have hl := (List.getElem?_eq_some_iff.1 hr).1
    have hB : ∀ (i : Nat) (r : TRow), l[i]? = some r → rowB cur r = true := by
      intro i r hr
      have := h i (List.getElem?_eq_some_iff.1 hr).1
      unfold rowP at this
      rw [hr] at this
      simp only [Bool.and_eq_true] at this
      exact this.1
    have hb := hB i r hr
    have hh := (row_law cur r).2 hb
    have hp := h i hl
    unfold rowP at hp
    rw [hr] at hp
    simp only [hb, Bool.true_and, hh, Bool.and_eq_true, decide_eq_true_eq] at hp
    rw [(row_law cur r).1] at hb
    simp only [inF, Bool.and_eq_true, decide_eq_true_eq] at hb
    cases i with
    | zero =>
      simp only [rowLast] at hp
      simp only [prevM, prevH]
      exact ⟨by omega, hb.1.2, hb.2, hp.1⟩
    | succ i =>
      obtain ⟨y, hy⟩ : ∃ y, l[i]? = some y := ⟨_, List.getElem?_eq_getElem (by omega)⟩
      have hby := (row_law cur y).2 (hB i y hy)
      simp only [rowLast, hy, hby, Nat.add_sub_cancel] at hp
      simp only [prevM, prevH, hy]
      refine ⟨?_, hb.1.2, hb.2, hp.1⟩
      have := hp.2
      simpa using this
end Go.Proofs.YtpipbjfcbbdicaaGreatDoor

namespace Go.Proofs.YtpipbjfcbbdicaaGreatDoor
open Go Go.Abs

theorem pats_law (t : TTab) : patsF t = if ckPat t = false then 5 else if ckRules t = false then 6 else 0 := rfl
/-- Two reasons are one, where the points' questions are. -/
theorem check_of (t : TTab) (h : setF t.dg.list = true → ckPoint t = lpt t) : checkF t = whyF t := by
  unfold whyF
  rw [rows_law, rows_law, rows_law, cur_law, unt_law, ← plc_order]
  have e1 : ckRow t = (rowsF t.short 0 && (rowsF t.long 0 && rowsF t.mshort 1)) := rfl
  have e2 : ckCur t = (decide (t.curs.length ≤ 40) && allB (curP t.curs) t.curs.length) := rfl
  have e3 : ckUnit t = (decide (t.units.length ≤ 40) && allB (untP t.units) t.units.length) := rfl
  rw [← e1, ← e2, ← e3, pats_law]
  unfold checkF signsF
  cases h0 : setF t.dg.list with
  | false => simp
  | true =>
  rw [← h h0]
  cases ckSign t <;> cases ckPoint t <;> cases inF t.minGroup 1 4 <;> cases ckPat t <;> cases ckRules t <;> simp
end Go.Proofs.YtpipbjfcbbdicaaGreatDoor

namespace Go.Proofs.YtpipbjfcbbdicaaGreatDoor
open Go Go.Abs

theorem decN_ext {n b0 b1 b2 b3 p N c1 c2 c3 : Nat} (h : Lib.decodeN n b0 b1 b2 b3 = (p, n)) (hv : ¬ (p = 65533 ∧ n = 1)) (hN : n ≤ N) (e1 : 1 < n → c1 = b1) (e2 : 2 < n → c2 = b2) (e3 : 3 < n → c3 = b3) : Lib.decodeN N b0 c1 c2 c3 = (p, n) := by
  unfold Lib.decodeN at h ⊢
  split at h
  · rename_i h0
    rw [if_pos h0]; exact h
  rename_i h0
  rw [if_neg h0]
  split at h
  · rename_i h1
    split at h
    · rename_i h2
      have hn : n = 2 := by simp only [Prod.mk.injEq] at h; omega
      have f1 := e1 (by omega)
      subst f1
      rw [if_pos ⟨h1.1, by omega, h1.2.2⟩, if_pos h2]; exact h
    · simp only [Prod.mk.injEq] at h; exact absurd ⟨h.1.symm, h.2.symm⟩ hv
  rename_i h1
  split at h
  · rename_i h2
    split at h
    · rename_i h3
      have hn : n = 3 := by simp only [Prod.mk.injEq] at h; omega
      have f1 := e1 (by omega)
      have f2 := e2 (by omega)
      subst f1; subst f2
      rw [if_neg (by omega), if_pos ⟨h2.1, ⟨by omega, h2.2.1.2⟩, by omega, h2.2.2.2⟩, if_pos h3]; exact h
    · simp only [Prod.mk.injEq] at h; exact absurd ⟨h.1.symm, h.2.symm⟩ hv
  rename_i h2
  split at h
  · rename_i h3
    split at h
    · rename_i h4
      have hn : n = 4 := by simp only [Prod.mk.injEq] at h; omega
      have f1 := e1 (by omega)
      have f2 := e2 (by omega)
      have f3 := e3 (by omega)
      subst f1; subst f2; subst f3
      rw [if_neg (by omega), if_neg (by omega), if_pos ⟨h3.1, ⟨by omega, h3.2.1.2⟩, ⟨by omega, h3.2.2.1.2⟩, by omega, h3.2.2.2.2⟩, if_pos h4]; exact h
    · simp only [Prod.mk.injEq] at h; exact absurd ⟨h.1.symm, h.2.symm⟩ hv
  · simp only [Prod.mk.injEq] at h; exact absurd ⟨h.1.symm, h.2.symm⟩ hv
theorem one_dec {s : List UInt8} (h : oneF s = true) : s ≠ [] ∧ (Lib.decodeL s).2 = s.length ∧ ¬ ((Lib.decodeL s).1 = 65533 ∧ (Lib.decodeL s).2 = 1) := by
  unfold oneF at h
  simp only [Bool.and_eq_true, beq_iff_eq] at h
  obtain ⟨hr, hc⟩ := h
  have hne : s ≠ [] := by
    intro e
    subst e
    revert hc
    unfold runesF Lib.runeCount
    decide
  have hl : 0 < s.length := List.length_pos_iff.2 hne
  refine ⟨hne, ?_, ?_⟩
  · have hle := Lib.decodeL_le s hne
    have hw := Lib.decodeL_width s
    have hsz : (⟨⟨s⟩⟩ : ByteArray).size = s.length := rfl
    obtain ⟨n, hn⟩ : ∃ n, s.length = n + 1 := ⟨s.length - 1, by omega⟩
    unfold runesF Lib.runeCount at hc
    rw [hsz, hn] at hc
    unfold Lib.runeCountFrom at hc
    rw [if_pos (by rw [hsz]; omega)] at hc
    have hc0 : Lib.runeCountFrom ⟨⟨s⟩⟩ n (0 + (Utf8.decode ⟨⟨s⟩⟩ 0).2) = 0 := by omega
    have hd : (Utf8.decode ⟨⟨s⟩⟩ 0).2 = (Lib.decodeL s).2 := rfl
    rw [hd] at hc0
    by_cases hlt : (Lib.decodeL s).2 < s.length
    · obtain ⟨j, hj⟩ : ∃ j, n = j + 1 := ⟨n - 1, by omega⟩
      rw [hj] at hc0
      unfold Lib.runeCountFrom at hc0
      rw [if_pos (by rw [hsz]; omega)] at hc0
      omega
    · omega
  · intro hb
    unfold rightF at hr
    rw [Lib.validD_step s hne, if_pos hb] at hr
    cases hr
theorem one_prefix {d s : List UInt8} (hd : oneF d = true) (hs : oneF s = true) (hp : d <+: s) : d = s := by
  obtain ⟨d1, d2, d3⟩ := one_dec hd
  obtain ⟨s1, s2, _⟩ := one_dec hs
  obtain ⟨r, rfl⟩ := hp
  have hdl : 0 < d.length := List.length_pos_iff.2 d1
  have e : Lib.decodeL d = ((Lib.decodeL d).1, d.length) := Prod.ext rfl d2
  rw [d2] at d3
  have key : Lib.decodeL (d ++ r) = ((Lib.decodeL d).1, d.length) := by
    rw [Lib.decodeL_N]
    rw [Lib.decodeL_N d] at e
    have g : ∀ j, j < d.length → ((d ++ r).getD j 0).toNat = (d.getD j 0).toNat := fun j hj => by
      rw [List.getD_eq_getElem?_getD, List.getD_eq_getElem?_getD, List.getElem?_append_left hj]
    rw [g 0 hdl]
    rw [Lib.decodeL_N d] at d3 ⊢
    exact decN_ext e d3 (by simp) (fun h => g 1 h) (fun h => g 2 h) (fun h => g 3 h)
  have : d.length = (d ++ r).length := by rw [← s2, key]
  have hr : r = [] := List.eq_nil_of_length_eq_zero (by rw [List.length_append] at this; omega)
  rw [hr, List.append_nil]
theorem sonL_none (s : List UInt8) : ∀ (ds : List (List UInt8)) (i : Nat), sonL s ds i = none ↔ ∀ d ∈ ds, ¬ (d ≠ [] ∧ d.isPrefixOf s = true)
  | [], i => by simp [sonL]
  | d :: ds, i => by
    unfold sonL
    by_cases h : d ≠ [] ∧ d.isPrefixOf s = true
    · rw [if_pos h]
      exact ⟨fun e => (by cases e), fun hA => absurd h (hA d List.mem_cons_self)⟩
    · rw [if_neg h, sonL_none s ds (i + 1)]
      constructor
      · intro hA x hx
        rcases List.mem_cons.1 hx with rfl | hx
        · exact h
        · exact hA x hx
      · intro hA x hx
        exact hA x (List.mem_cons_of_mem _ hx)
theorem set_ones {d : TDig} (h : setF d.list = true) : ∀ x ∈ d.list, oneF x = true := by
  unfold setF at h
  simp only [TDig.list, setL, List.getElem?_cons_zero, List.getElem?_cons_succ, Bool.and_eq_true] at h
  intro x hx
  simp only [TDig.list, List.mem_cons, List.not_mem_nil, or_false] at hx
  obtain ⟨⟨h0, _⟩, ⟨h1, _⟩, ⟨h2, _⟩, ⟨h3, _⟩, ⟨h4, _⟩, ⟨h5, _⟩, ⟨h6, _⟩, ⟨h7, _⟩, ⟨h8, _⟩, ⟨h9, _⟩, _⟩ := h
  rcases hx with rfl | rfl | rfl | rfl | rfl | rfl | rfl | rfl | rfl | rfl <;> assumption
theorem point_law {d : TDig} (h : setF d.list = true) (s : List UInt8) : pointF d s = (oneF s && !d.list.any fun x => decide (x = s)) := by
  unfold pointF
  cases hs : oneF s with
  | false => rfl
  | true =>
  rw [Bool.true_and, Bool.true_and, Bool.eq_iff_iff, Option.isNone_iff_eq_none]
  unfold sonF
  rw [sonL_none, Bool.not_eq_true', List.any_eq_false]
  have ho := set_ones h
  constructor
  · intro hA x hx
    simp only [decide_eq_true_eq]
    intro e
    refine hA x hx ⟨(one_dec (ho x hx)).1, ?_⟩
    rw [e]
    simp
  · intro hA x hx hp
    have := one_prefix (ho x hx) hs (List.isPrefixOf_iff_prefix.1 hp.2)
    exact hA x hx (by simpa using this)
/-- The two sides answer alike. -/
theorem check_why (t : TTab) : checkF t = whyF t := by
  refine check_of t fun h => ?_
  unfold ckPoint lpt
  rw [point_law h, point_law h]
  have e : (t.dg.list.any fun d => decide (d = t.point ∨ d = t.comma)) = ((t.dg.list.any fun x => decide (x = t.point)) || t.dg.list.any fun x => decide (x = t.comma)) := by
    rw [Bool.eq_iff_iff]
    simp only [List.any_eq_true, Bool.or_eq_true, decide_eq_true_eq]
    constructor
    · rintro ⟨x, hx, h | h⟩
      · exact .inl ⟨x, hx, h⟩
      · exact .inr ⟨x, hx, h⟩
    · rintro (⟨x, hx, h⟩ | ⟨x, hx, h⟩)
      · exact ⟨x, hx, .inl h⟩
      · exact ⟨x, hx, .inr h⟩
  rw [e]
  cases oneF t.point <;> cases oneF t.comma <;> cases (t.dg.list.any fun x => decide (x = t.point)) <;> cases (t.dg.list.any fun x => decide (x = t.comma)) <;> simp
end Go.Proofs.YtpipbjfcbbdicaaGreatDoor

namespace Go.Proofs.YtpipbjfcbbdicaaGreatDoor
open Go Go.Abs
attribute [local irreducible] DrawW CallW RetW AC Does CmpW

def zeroT : TTab := { dg := ⟨[], [], [], [], [], [], [], [], [], []⟩, minus := [], plus := [], percent := [], permille := [], point := [], comma := [], minGroup := 0, decimal := [], per := [], money := [], account := [], rules := [], short := [], long := [], mshort := [], curs := [], units := [], munit := [], before := ⟨[], [], []⟩, after := ⟨[], [], []⟩ }
theorem check_zero : checkF zeroT = 1 := by kernel_rfl
theorem check_base0 : checkF base0 = 0 := by kernel_rfl
theorem check_base1 : checkF base1 = 0 := by kernel_rfl
theorem check_base2 : checkF base2 = 0 := by kernel_rfl
theorem fits_zero : zeroT.fits := plain_fits (by kernel_rfl)
theorem fits_base0 : base0.fits := plain_fits (by kernel_rfl)
theorem fits_base1 : base1.fits := plain_fits (by kernel_rfl)
theorem fits_base2 : base2.fits := plain_fits (by kernel_rfl)
theorem baseF_0 : baseF 0 = base0 := rfl
theorem baseF_1 : baseF 1 = base1 := rfl
theorem baseF_2 : baseF 2 = base2 := rfl
theorem head16_does (m : Int) : Does Tryz.prog (GL m) 6 [] [] fun ae _ => ae = .ret (.bool true) := by
  have dz : Does Tryz.prog (GL m) 8 [.agg zeroC] [] fun ae _ => ae = .ret (.int .i64 1) := by
    have h := Check_does (m := m) fits_zero
    rw [check_zero] at h
    exact Does.wkA h fun C us hr => unnil_agg hr
  have d0 := Check_does (m := m) fits_base0
  rw [check_base0] at d0
  have d1 := Check_does (m := m) fits_base1
  rw [check_base1] at d1
  have d2 := Check_does (m := m) fits_base2
  rw [check_base2] at d2
  have b0 := Base_does (G := GL m) 0
  rw [baseF_0] at b0
  have b1 := Base_does (G := GL m) 1
  rw [baseF_1] at b1
  have b2 := Base_does (G := GL m) 2
  rw [baseF_2] at b2
  refine Does.body tab Tryz.func6 rfl rfl ?_
  refine gos ?_
  refine CallW.pure dz rfl rfl ?_
  refine gos ?_
  refine CallW.pure b0 rfl rfl ?_
  refine gos ?_
  refine CallW.pure d0 rfl rfl ?_
  refine gos ?_
  refine CallW.pure b1 rfl rfl ?_
  refine gos ?_
  refine CallW.pure d1 rfl rfl ?_
  refine gos ?_
  refine CallW.pure b2 rfl rfl ?_
  refine gos ?_
  refine CallW.pure d2 rfl rfl ?_
  refine gos ?_
  refine RetW.plain (by simp) ?_
  rfl
theorem ValidWhy_does (m : Int) (t : TTab) (hw : t.wide) : Does Tryz.prog (GL m) 3 [.agg (tabC t)] [] fun ae _ => ae = .ret (.bool true) := by
  refine Does.bodyA tab Tryz.func3 rfl rfl ?_
  refine AC.step tab ?_
  refine gos ?_
  intro v1
  refine gos ?_
  refine AC.wk (Wk.ptr (k := 1) (i := 0) rfl rfl rfl rfl rfl) ?_
  refine AC.cutF tab (fun e h => e = [.any, .fptr (tabC t)] ++ List.replicate 11 .any ∧ h = []) ?_ ?_
  · refine gos ?_
    refine CallW.pure (head16_does m) rfl rfl ?_
    refine gos ?_
    exact ⟨_, 0, fgts, rfl, rfl⟩
  rintro e h ⟨rfl, rfl⟩
  refine AC.cutF tab (fun e h => plainB t = true ∧ e = [.any, .fptr (tabC t)] ++ List.replicate 11 .any ∧ h = []) ?_ ?_
  · refine gos ?_
    refine CallW.pure (plain_does t hw) rfl rfl ?_
    cases hp : plainB t with
    | false =>
      refine gos ?_
      refine RetW.plain (by simp) ?_
      rfl
    | true =>
    refine gos ?_
    exact ⟨_, 0, fgts, rfl, rfl, rfl⟩
  rintro e h ⟨hp, rfl, rfl⟩
  have hf := plain_fits hp
  have dC := Check_does (m := m) hf
  have dW := Why_does m t hf
  rw [check_why t] at dC
  refine AC.go tab ?_
  refine gos ?_
  refine DrawW.P (.take 0 (.fork (.cons 1 (.take 2 (.take 3 (.take 4 (.take 5 .done)))) (.cons 2 (.take 1 (.take 3 (.take 4 (.take 5 .done)))) .nil)))) ?_
  (repeat' (first | exact trivial | refine CallW.pure dC rfl rfl ?_ | refine CallW.pure dW rfl rfl ?_ | refine gof ?_ | refine And.intro ?_ ?_))
  all_goals
    refine CmpW.t (by simp) ?_
    refine gos ?_
    refine RetW.plain (by simp) ?_
    rfl
end Go.Proofs.YtpipbjfcbbdicaaGreatDoor

namespace Go.Proofs.YtpipbjfcbbdicaaGreatDoor
open Go Go.Abs

/-- A table that fits, of few rows, currencies, units. -/
structure TTab.few (t : TTab) (k : Nat) : Prop where
  fits : t.fits
  short : t.short.length ≤ k
  curs : t.curs.length ≤ k
  units : t.units.length ≤ k
theorem oneT_fits {s : List UInt8} (h : s.length ≤ 150) : txtFits (oneT s) := by
  refine ⟨by simp [oneT], fun x hx => ?_⟩
  simp only [oneT, List.mem_singleton] at hx
  subst hx
  show s.length < 50000
  omega
theorem nil_fits : txtFits [] := ⟨by simp, fun x hx => by cases hx⟩
theorem row_fits {r : TRow} (h : txtFits r.texts) : r.fits := ⟨by have := h.1; omega, fun x hx => by have := h.2 x hx; omega⟩
theorem base_few (n : Int) : (baseF n).few 20 := by
  unfold baseF
  split
  · exact ⟨fits_base1, by decide, by decide, by decide⟩
  · split
    · exact ⟨fits_base2, by decide, by decide, by decide⟩
    · exact ⟨fits_base0, by decide, by decide, by decide⟩
theorem closedLL_mp {α : Type} {f : α → List AV} (h : ∀ x, closedL (f x) = true) : ∀ l : List α, closedLL (l.map f) = true
  | [] => rfl
  | x :: l => by
    have := closedLL_mp h l
    simp [closedLL, h x, this]
end Go.Proofs.YtpipbjfcbbdicaaGreatDoor

namespace Go.Proofs.YtpipbjfcbbdicaaGreatDoor
open Go Go.Abs
theorem block_of_cell {W : World} {b off : Nat} {v : Value} (h : W.cell? ⟨b, off, none⟩ = some v) : b < W.heap.size := by
  rcases Nat.lt_or_ge b W.heap.size with h' | h'
  · exact h'
  · simp [World.cell?, Array.getElem?_eq_none h'] at h
theorem rep_of_ints {C : Ctx} : ∀ l : List (IntKind × Int), RepFL C (l.map fun x => .int x.1 x.2) (l.map fun x => Value.int x.1 x.2)
  | [] => by simp [RepFL]
  | x :: l => by simp only [List.map_cons, RepFL]; exact ⟨_, _, rfl, by simp [RepF], rep_of_ints l⟩
def firstL : List (IntKind × Int) := (List.range 256).map fun c => (IntKind.u8, ((Lib.firstT c : Nat) : Int))
def acceptL : List (IntKind × Int) := (List.range 16).flatMap fun i => [(IntKind.u8, ((Lib.accLo i : Nat) : Int)), (IntKind.u8, ((Lib.accHi i : Nat) : Int))]
theorem first_eq : firstCells = firstL.map fun x => AV.int x.1 x.2 := by unfold firstCells firstL; rw [List.map_map]; rfl
theorem accept_eq : acceptCells = acceptL.map fun x => AV.int x.1 x.2 := by unfold acceptCells acceptL; rw [List.map_flatMap]; rfl
theorem accept_at : ∀ j < 32, acceptL[j]? = some (if j % 2 = 0 then (IntKind.u8, ((Lib.accLo (j / 2) : Nat) : Int)) else (IntKind.u8, ((Lib.accHi (j / 2) : Nat) : Int))) := by decide
theorem accept_len : acceptL.length = 32 := by decide
theorem top_GL {W : World} {m : Int} (hU : Lib.Utf8Tabs 0 1 W) (hm : W.cell? ⟨5, 0, none⟩ = some (.int .i64 m)) : Abs.Good (GL m) (Ctx.top W) := by
  refine top_good fun p hp => ?_
  simp only [GL, List.mem_cons, List.mem_nil_iff, or_false] at hp
  obtain ⟨h1, h2⟩ := hU
  rcases hp with rfl | rfl | rfl
  · refine ⟨firstL.map fun x => Value.int x.1 x.2, block_of_cell (h1 0 (by decide)), fun j u hu => ?_, by rw [first_eq]; exact rep_of_ints _⟩
    have hj : j < 256 := by have := (List.getElem?_eq_some_iff.1 hu).1; simpa [firstL] using this
    have := h1 j hj
    rw [Nat.zero_add, this, ← hu]
    simp [firstL, hj]
  · refine ⟨acceptL.map fun x => Value.int x.1 x.2, block_of_cell (h2 0 (by decide)).1, fun j u hu => ?_, by rw [accept_eq]; exact rep_of_ints _⟩
    have hj : j < 32 := by have := (List.getElem?_eq_some_iff.1 hu).1; simpa [accept_len] using this
    have hk := h2 (j / 2) (by omega)
    rw [List.getElem?_map, accept_at j hj] at hu
    rw [Nat.zero_add, ← hu]
    by_cases hpar : j % 2 = 0
    · rw [if_pos hpar]
      have e : 2 * (j / 2) = j := by omega
      have := hk.1
      rw [e] at this
      exact this
    · rw [if_neg hpar]
      have e : 2 * (j / 2) + 1 = j := by omega
      have := hk.2
      rw [e] at this
      exact this
  · exact ⟨[.int .i64 m], block_of_cell hm, fun j u hu => by
      cases j with
      | zero => simp at hu; rw [← hu]; exact hm
      | succ j => simp at hu, by simp [RepFL, RepF]⟩
end Go.Proofs.YtpipbjfcbbdicaaGreatDoor
