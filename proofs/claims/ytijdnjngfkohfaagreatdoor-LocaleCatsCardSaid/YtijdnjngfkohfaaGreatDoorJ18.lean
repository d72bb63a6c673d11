/- A table's bytes; what is laid is read again. -/
import Derived.Test.YtijdnjngfkohfaaGreatDoorJ02
import Derived.Test.YtijdnjngfkohfaaGreatDoorAbsC
import Derived.Test.YtijdnjngfkohfaaGreatDoorJ17
set_option linter.unusedVariables false
set_option linter.unusedSimpArgs false
set_option maxRecDepth 100000
set_option maxHeartbeats 4000000

namespace Go.Proofs.YtijdnjngfkohfaaGreatDoor
open Go Go.Abs
theorem block_of_cell {W : World} {b off : Nat} {v : Value} (h : W.cell? ⟨b, off, none⟩ = some v) : b < W.heap.size := by
  rcases Nat.lt_or_ge b W.heap.size with h' | h'
  · exact h'
  · simp [World.cell?, Array.getElem?_eq_none h'] at h
theorem rep_of_ints {C : Ctx} : ∀ l : List (IntKind × Int), RepFL C (l.map fun x => .int x.1 x.2) (l.map fun x => Value.int x.1 x.2)
  | [] => by simp [RepFL]
  | x :: l => by simp only [List.map_cons, RepFL]; exact ⟨_, _, rfl, by simp [RepF], rep_of_ints l⟩
def firstL : List (IntKind × Int) := (List.range 256).map fun c => (IntKind.u8, ((Lib.firstT c : Nat) : Int))
def acceptL : List (IntKind × Int) := (List.range 16).flatMap fun i => [(IntKind.u8, ((Lib.accLo i : Nat) : Int)), (IntKind.u8, ((Lib.accHi i : Nat) : Int))]
theorem first_eq : firstCells = firstL.map fun x => AV.int x.1 x.2 := by unfold firstCells firstL; rw [List.map_map]; rfl
theorem accept_eq : acceptCells = acceptL.map fun x => AV.int x.1 x.2 := by unfold acceptCells acceptL; rw [List.map_flatMap]; rfl
theorem accept_at : ∀ j < 32, acceptL[j]? = some (if j % 2 = 0 then (IntKind.u8, ((Lib.accLo (j / 2) : Nat) : Int)) else (IntKind.u8, ((Lib.accHi (j / 2) : Nat) : Int))) := by decide
theorem accept_len : acceptL.length = 32 := by decide
theorem top_GL {W : World} {m : Int} (hU : Lib.Utf8Tabs 0 1 W) (hm : W.cell? ⟨2, 0, none⟩ = some (.int .i64 m)) : Abs.Good (GL m) (Ctx.top W) := by
  refine top_good fun p hp => ?_
  simp only [GL, List.mem_cons, List.mem_nil_iff, or_false] at hp
  obtain ⟨h1, h2⟩ := hU
  rcases hp with rfl | rfl | rfl
  · refine ⟨firstL.map fun x => Value.int x.1 x.2, block_of_cell (h1 0 (by decide)), fun j u hu => ?_, by rw [first_eq]; exact rep_of_ints _⟩
    have hj : j < 256 := by have := (List.getElem?_eq_some_iff.1 hu).1; simpa [firstL] using this
    have := h1 j hj
    rw [Nat.zero_add, this, ← hu]
    simp [firstL, hj]
  · refine ⟨acceptL.map fun x => Value.int x.1 x.2, block_of_cell (h2 0 (by decide)).1, fun j u hu => ?_, by rw [accept_eq]; exact rep_of_ints _⟩
    have hj : j < 32 := by have := (List.getElem?_eq_some_iff.1 hu).1; simpa [accept_len] using this
    have hk := h2 (j / 2) (by omega)
    rw [List.getElem?_map, accept_at j hj] at hu
    rw [Nat.zero_add, ← hu]
    by_cases hpar : j % 2 = 0
    · rw [if_pos hpar]
      have e : 2 * (j / 2) = j := by omega
      have := hk.1
      rw [e] at this
      exact this
    · rw [if_neg hpar]
      have e : 2 * (j / 2) + 1 = j := by omega
      have := hk.2
      rw [e] at this
      exact this
  · exact ⟨[.int .i64 m], block_of_cell hm, fun j u hu => by
      cases j with
      | zero => simp at hu; rw [← hu]; exact hm
      | succ j => simp at hu, by simp [RepFL, RepF]⟩
end Go.Proofs.YtijdnjngfkohfaaGreatDoor

namespace Go.Proofs.YtijdnjngfkohfaaGreatDoor
open Go Go.Abs
set_option linter.unusedVariables false
set_option linter.unusedSimpArgs false
structure BC (α : Type) where
  l0 : α
  l1 : α
  l2 : α
  l3 : α
  l4 : α
  l5 : α
  h0 : Bool
  h1 : Bool
  h2 : Bool
  h3 : Bool
  h4 : Bool
  h5 : Bool
def bc0 {α : Type} (z : α) : BC α := ⟨z, z, z, z, z, z, false, false, false, false, false, false⟩
def putN {α : Type} (b : BC α) (c : Nat) (v : α) : BC α := match c with
  | 0 => { b with l0 := v, h0 := true }
  | 1 => { b with l1 := v, h1 := true }
  | 2 => { b with l2 := v, h2 := true }
  | 3 => { b with l3 := v, h3 := true }
  | 4 => { b with l4 := v, h4 := true }
  | 5 => { b with l5 := v, h5 := true }
  | _ => b
def putC {α : Type} (b : BC α) (c : Int) (v : α) : BC α := if 0 ≤ c ∧ c ≤ 5 then putN b c.toNat v else b
def atN {α : Type} (b : BC α) (c : Nat) : α := match c with
  | 0 => b.l0
  | 1 => b.l1
  | 2 => b.l2
  | 3 => b.l3
  | 4 => b.l4
  | _ => b.l5
def hasN {α : Type} (b : BC α) (c : Nat) : Bool := match c with
  | 0 => b.h0
  | 1 => b.h1
  | 2 => b.h2
  | 3 => b.h3
  | 4 => b.h4
  | 5 => b.h5
  | _ => false
def hasC {α : Type} (b : BC α) (c : Int) : Bool := decide (0 ≤ c ∧ c ≤ 5) && hasN b c.toNat
def getC {α : Type} (b : BC α) (c : Int) : α := if hasC b c = true then atN b c.toNat else b.l5
def byG {α : Type} (read : List UInt8 → α) : BC α → List TTxt → BC α
  | b, [] => b
  | b, x :: l => byG read (putC b x.cat (read x.text)) l
def byC {α : Type} (z : α) (read : List UInt8 → α) (l : List TTxt) : BC α := byG read (bc0 z) l
def txtG (c : Int) : List UInt8 → List TTxt → List UInt8
  | out, [] => out
  | out, x :: l => txtG c (if x.cat = c then x.text else out) l
def txtF (l : List TTxt) (c : Int) : List UInt8 := txtG c (txtG 5 [] l) l
theorem putN_at {α : Type} (b : BC α) (c d : Nat) (v : α) (hc : c < 6) (hd : d < 6) : atN (putN b c v) d = if c = d then v else atN b d := by
  have : c = 0 ∨ c = 1 ∨ c = 2 ∨ c = 3 ∨ c = 4 ∨ c = 5 := by omega
  have : d = 0 ∨ d = 1 ∨ d = 2 ∨ d = 3 ∨ d = 4 ∨ d = 5 := by omega
  rcases ‹c = 0 ∨ _› with rfl | rfl | rfl | rfl | rfl | rfl <;> rcases ‹d = 0 ∨ _› with rfl | rfl | rfl | rfl | rfl | rfl <;> rfl
theorem putN_has {α : Type} (b : BC α) (c d : Nat) (v : α) (hc : c < 6) (hd : d < 6) : hasN (putN b c v) d = (decide (c = d) || hasN b d) := by
  have : c = 0 ∨ c = 1 ∨ c = 2 ∨ c = 3 ∨ c = 4 ∨ c = 5 := by omega
  have : d = 0 ∨ d = 1 ∨ d = 2 ∨ d = 3 ∨ d = 4 ∨ d = 5 := by omega
  rcases ‹c = 0 ∨ _› with rfl | rfl | rfl | rfl | rfl | rfl <;> rcases ‹d = 0 ∨ _› with rfl | rfl | rfl | rfl | rfl | rfl <;> rfl
theorem byG_at {α : Type} (read : List UInt8 → α) (d : Nat) (hd : d < 6) : ∀ (l : List TTxt) (b : BC α) (s : List UInt8), (∀ x ∈ l, 0 ≤ x.cat ∧ x.cat ≤ 5) →
    (hasN b d = true → atN b d = read s) →
    (hasN (byG read b l) d = (hasN b d || l.any fun x => decide (x.cat = (d : Int)))) ∧ (hasN (byG read b l) d = true → atN (byG read b l) d = read (txtG d s l))
  | [], b, s, _, h => by simpa [byG, txtG] using h
  | x :: l, b, s, hl, h => by
    have hx := hl x (by simp)
    have hc : x.cat.toNat < 6 := by omega
    have hp : putC b x.cat (read x.text) = putN b x.cat.toNat (read x.text) := by rw [putC, if_pos hx]
    have hi : (x.cat.toNat = d) ↔ (x.cat = (d : Int)) := by omega
    have ih := byG_at read d hd l (putC b x.cat (read x.text)) (if x.cat = (d : Int) then x.text else s) (fun y hy => hl y (by simp [hy])) (by
      rw [hp, putN_has _ _ _ _ hc hd, putN_at _ _ _ _ hc hd]
      intro h1
      by_cases h2 : x.cat = (d : Int)
      · simp [h2]
      · have h3 : ¬ x.cat.toNat = d := fun h4 => h2 (hi.1 h4)
        simp only [h2, h3, if_false]
        exact h (by simpa [h3] using h1))
    rw [byG, txtG]
    refine ⟨?_, ih.2⟩
    rw [ih.1, hp, putN_has _ _ _ _ hc hd, List.any_cons]
    have : decide (x.cat.toNat = d) = decide (x.cat = (d : Int)) := by simp only [hi]
    rw [this]
    cases decide (x.cat = (d : Int)) <;> cases hasN b d <;> rfl
theorem txtG_none {c : Int} : ∀ (l : List TTxt) (s : List UInt8), (l.any fun x => decide (x.cat = c)) = false → txtG c s l = s
  | [], s, _ => rfl
  | x :: l, s, h => by
    rw [List.any_cons, Bool.or_eq_false_iff] at h
    have h1 : ¬ x.cat = c := by simpa using h.1
    rw [txtG, if_neg h1]
    exact txtG_none l s h.2
theorem byC_get {α : Type} (z : α) (read : List UInt8 → α) {l : List TTxt} (hl : ∀ x ∈ l, 0 ≤ x.cat ∧ x.cat ≤ 5) (ho : (l.any fun x => decide (x.cat = 5)) = true) (c : Int) :
    getC (byC z read l) c = read (txtF l c) := by
  obtain ⟨a1, a2⟩ := byG_at read 5 (by decide) l (bc0 z) [] hl (fun h => by cases h)
  have e5 : (byC z read l).l5 = read (txtG 5 [] l) := a2 (by rw [a1]; exact (congrArg (hasN (bc0 z) 5 || ·) ho).trans (Bool.or_true _))
  rw [getC, txtF]
  by_cases h : 0 ≤ c ∧ c ≤ 5
  · obtain ⟨d, rfl⟩ : ∃ d : Nat, c = (d : Int) := ⟨c.toNat, by omega⟩
    have hd : d < 6 := by omega
    have hn : hasC (byC z read l) (d : Int) = hasN (byC z read l) d := by simp [hasC]; omega
    have hat : atN (byC z read l) (d : Int).toNat = atN (byC z read l) d := by simp
    rw [hn, hat]
    obtain ⟨b1, b2⟩ := byG_at read d hd l (bc0 z) (txtG 5 [] l) hl (fun h => by
      have : d = 0 ∨ d = 1 ∨ d = 2 ∨ d = 3 ∨ d = 4 ∨ d = 5 := by omega
      rcases this with rfl | rfl | rfl | rfl | rfl | rfl <;> cases h)
    by_cases h2 : hasN (byC z read l) d = true
    · rw [if_pos h2]; exact b2 h2
    · rw [if_neg h2, e5]
      have h3 : hasN (byC z read l) d = false := by simpa using h2
      rw [byC, b1, Bool.or_eq_false_iff] at h3
      rw [txtG_none l _ h3.2]
  · have hn : hasC (byC z read l) c = false := by simp [hasC]; omega
    rw [hn, e5]
    have : (l.any fun x => decide (x.cat = c)) = false := by
      rw [List.any_eq_false]
      intro x hx
      have := hl x hx
      simp only [decide_eq_true_eq]
      omega
    rw [txtG_none l _ this]
    rfl
end Go.Proofs.YtijdnjngfkohfaaGreatDoor

namespace Go.Proofs.YtijdnjngfkohfaaGreatDoor
open Go Go.Abs
def encS1 (s : List UInt8) : List AV := [.str s]
theorem encS1_one (l : List (List UInt8)) : ∀ y ∈ l.map encS1, y.length = 1 := fun y hy => by obtain ⟨z, _, rfl⟩ := List.mem_map.1 hy; rfl
end Go.Proofs.YtijdnjngfkohfaaGreatDoor

namespace Go.Proofs.YtijdnjngfkohfaaGreatDoor
open Go Go.Abs
set_option linter.unusedVariables false
set_option linter.unusedSimpArgs false
def numL : Nat → Nat → List UInt8
  | 0, _ => []
  | k + 1, n => if n ≤ 127 then [UInt8.ofNat n] else UInt8.ofNat (n % 128 + 128) :: numL k (n / 128)
def numW (n : Int) : List UInt8 := numL 10 n.toNat
def textW (s : List UInt8) : List UInt8 := numW s.length ++ s
structure Rd where
  s : List UInt8
  p : Nat
  bad : Bool
def numG : Nat → Rd → Nat → Nat → Nat × Rd
  | 0, r, _, _ => (0, { r with bad := true })
  | k + 1, r, n, sh =>
    match r.s[r.p]? with
    | none => (0, { r with bad := true })
    | some b =>
      if 56 < sh then (0, { r with bad := true })
      else if b.toNat < 128 then
        if b = 0 ∧ 0 < sh then (0, { r with p := r.p + 1, bad := true }) else (n + b.toNat * 2 ^ sh, { r with p := r.p + 1 })
      else numG k { r with p := r.p + 1 } (n + b.toNat % 128 * 2 ^ sh) (sh + 7)
def numRd (r : Rd) : Nat × Rd := if r.bad then (0, r) else numG 10 r 0 0
def textRd (r : Rd) : List UInt8 × Rd :=
  let x := numRd r
  if x.2.bad = true ∨ x.2.s.length - x.2.p < x.1 then ([], { x.2 with bad := true })
  else ((x.2.s.drop x.2.p).take x.1, { x.2 with p := x.2.p + x.1 })
def countRd (most : Nat) (r : Rd) : Nat × Rd :=
  let x := numRd r
  if most < x.1 then (0, { x.2 with bad := true }) else x
def RdAt (r : Rd) (l : List UInt8) : Prop := r.bad = false ∧ r.p ≤ r.s.length ∧ r.s.drop r.p = l
def Rds {α : Type} (f : Rd → α × Rd) (w : List UInt8) (a : α) : Prop :=
  ∀ r post, RdAt r (w ++ post) → (f r).1 = a ∧ RdAt (f r).2 post ∧ (f r).2.s = r.s
def rtn {α : Type} (a : α) : Rd → α × Rd := fun r => (a, r)
def bnd {α β : Type} (f : Rd → α × Rd) (g : α → Rd → β × Rd) : Rd → β × Rd := fun r => g (f r).1 (f r).2
theorem rds_ret {α : Type} (a : α) : Rds (rtn a) [] a := fun r post h => ⟨rfl, h, rfl⟩
theorem rds_bnd {α β : Type} {f : Rd → α × Rd} {g : α → Rd → β × Rd} {w v : List UInt8} {a : α} {b : β} (h1 : Rds f w a) (h2 : Rds (g a) v b) : Rds (bnd f g) (w ++ v) b := by
  intro r post h
  obtain ⟨e1, A1, s1⟩ := h1 r (v ++ post) (by simpa using h)
  have h3 := h2 (f r).2 post A1
  simp only [bnd, e1]
  exact ⟨h3.1, h3.2.1, h3.2.2.trans s1⟩
theorem rds_bnd1 {α β : Type} {f : Rd → α × Rd} {b : α → β} {w : List UInt8} {a : α} (h1 : Rds f w a) : Rds (bnd f fun x => rtn (b x)) w (b a) := by
  have := rds_bnd h1 (g := fun x => rtn (b x)) (rds_ret (b a))
  simpa using this
theorem drop_cons {s : List UInt8} {p : Nat} {b : UInt8} {l : List UInt8} (h : s.drop p = b :: l) : s[p]? = some b ∧ s.drop (p + 1) = l ∧ p + 1 ≤ s.length := by
  have hl : p < s.length := by
    rcases Nat.lt_or_ge p s.length with h1 | h1
    · exact h1
    · rw [List.drop_eq_nil_of_le h1] at h; cases h
  have := List.drop_eq_getElem_cons hl
  rw [h] at this
  injection this with h1 h2
  exact ⟨by rw [List.getElem?_eq_getElem hl, h1], h2.symm, hl⟩
theorem numG_at : ∀ (k n acc sh : Nat) (r : Rd) (post : List UInt8), n < 2 ^ (7 * k) → 0 < k → sh + 7 * k ≤ 63 → (0 < sh → 0 < n) → RdAt r (numL k n ++ post) →
    (numG (k + 1) r acc sh).1 = acc + n * 2 ^ sh ∧ RdAt (numG (k + 1) r acc sh).2 post ∧ (numG (k + 1) r acc sh).2.s = r.s
  | 0, _, _, _, _, _, _, h0, _, _, _ => absurd h0 (by omega)
  | k + 1, n, acc, sh, r, post, hn, _, hs, hp, ha => by
    obtain ⟨hb, hl, hd⟩ := ha
    by_cases h1 : n ≤ 127
    · rw [numL, if_pos h1] at hd
      obtain ⟨e1, e2, e3⟩ := drop_cons (l := post) hd
      have hv : (UInt8.ofNat n).toNat = n := by rw [UInt8.toNat_ofNat']; omega
      rw [numG]
      simp only [e1]
      rw [if_neg (by omega), if_pos (by omega)]
      have h2 : ¬ (UInt8.ofNat n = 0 ∧ 0 < sh) := fun ⟨h3, h4⟩ => by
        have := congrArg UInt8.toNat h3
        have h5 := hp h4
        rw [hv] at this
        simp at this
        omega
      rw [if_neg h2, hv]
      exact ⟨rfl, ⟨hb, e3, e2⟩, rfl⟩
    · rw [numL, if_neg h1] at hd
      obtain ⟨e1, e2, e3⟩ := drop_cons (l := numL k (n / 128) ++ post) hd
      have hv : (UInt8.ofNat (n % 128 + 128)).toNat = n % 128 + 128 := by rw [UInt8.toNat_ofNat']; omega
      rw [numG]
      simp only [e1]
      rw [if_neg (by omega), if_neg (by omega), hv]
      have hk : 0 < k := by
        rcases Nat.eq_zero_or_pos k with h | h
        · subst h; simp at hn; omega
        · exact h
      have hn' : n / 128 < 2 ^ (7 * k) := by
        rw [Nat.div_lt_iff_lt_mul (by decide)]
        have : 7 * (k + 1) = 7 * k + 7 := by omega
        rw [this, Nat.pow_add] at hn
        exact hn
      have ih := numG_at k (n / 128) (acc + (n % 128 + 128) % 128 * 2 ^ sh) (sh + 7) { r with p := r.p + 1 } post hn' hk (by omega) (fun _ => by omega) ⟨hb, e3, e2⟩
      refine ⟨?_, ih.2⟩
      rw [ih.1]
      have h6 : (n % 128 + 128) % 128 = n % 128 := by omega
      rw [h6, Nat.pow_add, Nat.add_assoc]
      congr 1
      have h7 : n / 128 * (2 ^ sh * 2 ^ 7) = n / 128 * 128 * 2 ^ sh := by rw [Nat.mul_comm (2 ^ sh), ← Nat.mul_assoc]
      rw [h7, ← Nat.add_mul]
      congr 1
      omega
theorem numL_more : ∀ (k n : Nat), n < 2 ^ (7 * k) → 0 < k → numL (k + 1) n = numL k n
  | 0, _, _, h => absurd h (by omega)
  | k + 1, n, h, _ => by
    by_cases h1 : n ≤ 127
    · simp [numL, h1]
    · show (if n ≤ 127 then [UInt8.ofNat n] else UInt8.ofNat (n % 128 + 128) :: numL (k + 1) (n / 128)) = (if n ≤ 127 then [UInt8.ofNat n] else UInt8.ofNat (n % 128 + 128) :: numL k (n / 128))
      rw [if_neg h1, if_neg h1]
      congr 1
      have hk : 0 < k := by
        rcases Nat.eq_zero_or_pos k with h2 | h2
        · subst h2; simp at h; omega
        · exact h2
      refine numL_more k (n / 128) ?_ hk
      rw [Nat.div_lt_iff_lt_mul (by decide)]
      have : 7 * (k + 1) = 7 * k + 7 := by omega
      rw [this, Nat.pow_add] at h
      exact h
theorem num_reads {n : Int} (h0 : 0 ≤ n) (h1 : n < 2 ^ 63) : Rds numRd (numW n) n.toNat := by
  intro r post ha
  have hb := ha.1
  have hn : n.toNat < 2 ^ (7 * 9) := by
    have : (2 : Nat) ^ (7 * 9) = 9223372036854775808 := by decide
    have h2 : (2 : Int) ^ 63 = 9223372036854775808 := by decide
    omega
  rw [numW, numL_more 9 _ hn (by decide)] at ha
  have := numG_at 9 n.toNat 0 0 r post hn (by decide) (by decide) (fun h => absurd h (by decide)) ha
  rw [numRd, if_neg (by simp [hb])]
  simpa using this
theorem text_reads {s : List UInt8} (h : s.length < 2 ^ 63) : Rds textRd (textW s) s := by
  intro r post ha
  rw [textW, List.append_assoc] at ha
  obtain ⟨e1, A1, s1⟩ := num_reads (n := s.length) (by omega) (by exact_mod_cast h) r (s ++ post) ha
  obtain ⟨b1, l1, d1⟩ := A1
  have hl : (numRd r).2.s.length - (numRd r).2.p = s.length + post.length := by
    have := congrArg List.length d1
    simpa using this
  have e2 : (numRd r).1 = s.length := by simpa using e1
  have hN : ¬ ((numRd r).2.bad = true ∨ (numRd r).2.s.length - (numRd r).2.p < (numRd r).1) := by
    rw [b1, hl, e2]; simp
  have hT : textRd r = (((numRd r).2.s.drop (numRd r).2.p).take (numRd r).1, { (numRd r).2 with p := (numRd r).2.p + (numRd r).1 }) := by
    simp only [textRd]
    rw [if_neg hN]
  rw [hT, e2, d1]
  refine ⟨by simp, ⟨b1, ?_, ?_⟩, s1⟩
  · show (numRd r).2.p + s.length ≤ (numRd r).2.s.length
    omega
  · show (numRd r).2.s.drop ((numRd r).2.p + s.length) = post
    rw [← List.drop_drop, d1]
    simp
theorem count_reads {most : Nat} {n : Nat} (h : n ≤ most) (h1 : most < 2 ^ 63) : Rds (countRd most) (numW n) n := by
  intro r post ha
  obtain ⟨e1, A1, s1⟩ := num_reads (n := n) (by omega) (by have : (2:Int)^63 = ((2 ^ 63 : Nat) : Int) := by decide
                                                           omega) r post ha
  have e2 : (numRd r).1 = n := by simpa using e1
  simp only [countRd]
  rw [if_neg (by omega)]
  exact ⟨e2, A1, s1⟩
def listG {α : Type} (one : Rd → α × Rd) : Nat → Rd → List α × Rd
  | 0, r => ([], r)
  | n + 1, r => if r.bad then ([], r) else ((one r).1 :: (listG one n (one r).2).1, (listG one n (one r).2).2)
def listRd {α : Type} (one : Rd → α × Rd) (r : Rd) : List α × Rd := listG one (countRd 65536 r).1 (countRd 65536 r).2
theorem listG_reads {α : Type} {one : Rd → α × Rd} {w : α → List UInt8} : ∀ (l : List α), (∀ x ∈ l, Rds one (w x) x) → Rds (listG one l.length) (l.flatMap w) l
  | [], _ => fun r post h => ⟨rfl, h, rfl⟩
  | x :: l, h => fun r post ha => by
    rw [List.flatMap_cons, List.append_assoc] at ha
    obtain ⟨e1, A1, s1⟩ := h x (by simp) r _ ha
    obtain ⟨e2, A2, s2⟩ := listG_reads l (fun y hy => h y (List.mem_cons_of_mem _ hy)) _ post A1
    rw [List.length_cons]
    simp only [listG, ha.1, e1, e2]
    exact ⟨rfl, A2, s2.trans s1⟩
def listW {α : Type} (w : α → List UInt8) (l : List α) : List UInt8 := numW l.length ++ l.flatMap w
theorem list_reads {α : Type} {one : Rd → α × Rd} {w : α → List UInt8} {l : List α} (h : ∀ x ∈ l, Rds one (w x) x) (hl : l.length ≤ 65536) : Rds (listRd one) (listW w l) l :=
  rds_bnd (count_reads (most := 65536) (n := l.length) hl (by decide)) (g := fun n => listG one n) (listG_reads l h)
end Go.Proofs.YtijdnjngfkohfaaGreatDoor

namespace Go.Proofs.YtijdnjngfkohfaaGreatDoor
open Go Go.Abs
set_option linter.unusedVariables false
set_option linter.unusedSimpArgs false
def errMany : Int := 4
def errForm : Int := 1
def txtW (x : TTxt) : List UInt8 := numW x.cat ++ textW x.text
def txtRd : Rd → TTxt × Rd := bnd numRd fun c => bnd textRd fun s => rtn ⟨(c : Int), s⟩
def rowW (x : TRow) : List UInt8 := numW x.mag ++ listW txtW x.texts
def rowRd : Rd → TRow × Rd := bnd numRd fun m => bnd (listRd txtRd) fun l => rtn ⟨(m : Int), l⟩
def untW (x : TUnt) : List UInt8 := textW x.name ++ listW txtW x.texts
def untRd : Rd → TUnt × Rd := bnd textRd fun m => bnd (listRd txtRd) fun l => rtn ⟨m, l⟩
def curW (x : TCur) : List UInt8 := textW x.code ++ (textW x.symbol ++ (textW x.narrow ++ (listW txtW x.names ++ (numW x.digits ++ (numW x.inc ++ (numW x.cashDigits ++ numW x.cashInc))))))
def curRd : Rd → TCur × Rd := bnd textRd fun a => bnd textRd fun b => bnd textRd fun c => bnd (listRd txtRd) fun n => bnd numRd fun d => bnd numRd fun e => bnd numRd fun f => bnd numRd fun g => rtn ⟨a, b, c, n, (d : Int), (e : Int), (f : Int), (g : Int)⟩
def encF (t : TTab) : List UInt8 := textW t.dg.d0 ++ (textW t.dg.d1 ++ (textW t.dg.d2 ++ (textW t.dg.d3 ++ (textW t.dg.d4 ++ (textW t.dg.d5 ++ (textW t.dg.d6 ++ (textW t.dg.d7 ++ (textW t.dg.d8 ++ (textW t.dg.d9 ++ (textW t.minus ++ (textW t.plus ++ (textW t.percent ++ (textW t.permille ++ (textW t.point ++ (textW t.comma ++ (textW t.decimal ++ (textW t.per ++ (textW t.money ++ (textW t.account ++ (textW t.rules ++ (textW t.before.cur ++ (textW t.before.num ++ (textW t.before.ins ++ (textW t.after.cur ++ (textW t.after.num ++ (textW t.after.ins ++ (numW t.minGroup ++ (listW rowW t.short ++ (listW rowW t.long ++ (listW rowW t.mshort ++ (listW curW t.curs ++ (listW untW t.units ++ (listW txtW t.munit)))))))))))))))))))))))))))))))))
def tabRd : Rd → TTab × Rd := bnd textRd fun xdg_d0 => bnd textRd fun xdg_d1 => bnd textRd fun xdg_d2 => bnd textRd fun xdg_d3 => bnd textRd fun xdg_d4 => bnd textRd fun xdg_d5 => bnd textRd fun xdg_d6 => bnd textRd fun xdg_d7 => bnd textRd fun xdg_d8 => bnd textRd fun xdg_d9 => bnd textRd fun xminus => bnd textRd fun xplus => bnd textRd fun xpercent => bnd textRd fun xpermille => bnd textRd fun xpoint => bnd textRd fun xcomma => bnd textRd fun xdecimal => bnd textRd fun xper => bnd textRd fun xmoney => bnd textRd fun xaccount => bnd textRd fun xrules => bnd textRd fun xbefore_cur => bnd textRd fun xbefore_num => bnd textRd fun xbefore_ins => bnd textRd fun xafter_cur => bnd textRd fun xafter_num => bnd textRd fun xafter_ins => bnd numRd fun mg => bnd (listRd rowRd) fun sh => bnd (listRd rowRd) fun lo => bnd (listRd rowRd) fun ms => bnd (listRd curRd) fun cu => bnd (listRd untRd) fun un => bnd (listRd txtRd) fun mu => rtn ⟨⟨xdg_d0, xdg_d1, xdg_d2, xdg_d3, xdg_d4, xdg_d5, xdg_d6, xdg_d7, xdg_d8, xdg_d9⟩, xminus, xplus, xpercent, xpermille, xpoint, xcomma, (mg : Int), xdecimal, xper, xmoney, xaccount, xrules, sh, lo, ms, cu, un, mu, ⟨xbefore_cur, xbefore_num, xbefore_ins⟩, ⟨xafter_cur, xafter_num, xafter_ins⟩⟩
def tab0 : TTab := ⟨⟨[], [], [], [], [], [], [], [], [], []⟩, [], [], [], [], [], [], 0, [], [], [], [], [], [], [], [], [], [], [], ⟨[], [], []⟩, ⟨[], [], []⟩⟩
def decF (s : List UInt8) : TTab × Int :=
  if 65536 < s.length then (tab0, errMany)
  else if (tabRd ⟨s, 0, false⟩).2.bad = true ∨ (tabRd ⟨s, 0, false⟩).2.p ≠ s.length then (tab0, errForm) else ((tabRd ⟨s, 0, false⟩).1, 0)
def posN (n : Int) : Prop := 0 ≤ n ∧ n < 2 ^ 63
def posT (l : List TTxt) : Prop := ∀ x ∈ l, posN x.cat
def posR (l : List TRow) : Prop := ∀ x ∈ l, posN x.mag ∧ posT x.texts
def TTab.pos (t : TTab) : Prop := posN t.minGroup ∧ posR t.short ∧ posR t.long ∧ posR t.mshort ∧ posT t.munit ∧
  (∀ c ∈ t.curs, posT c.names ∧ posN c.digits ∧ posN c.inc ∧ posN c.cashDigits ∧ posN c.cashInc) ∧ ∀ u ∈ t.units, posT u.texts
theorem len_textW (s : List UInt8) : s.length ≤ (textW s).length := by simp [textW]
theorem len_numW (n : Int) : 1 ≤ (numW n).length := by
  rw [numW, numL]
  split <;> simp
theorem len_numL : ∀ (k n : Nat), (numL k n).length ≤ k
  | 0, _ => by simp [numL]
  | k + 1, n => by
    rw [numL]
    split
    · simp
    · simpa using len_numL k _
theorem len_mem {α : Type} {w : α → List UInt8} {l : List α} {x : α} (h : x ∈ l) : (w x).length ≤ (l.flatMap w).length := by
  induction l with
  | nil => cases h
  | cons y l ih =>
    rcases List.mem_cons.1 h with h | h
    · subst h; simp
    · have := ih h; simp only [List.flatMap_cons, List.length_append]; omega
theorem len_flat {α : Type} {w : α → List UInt8} (hw : ∀ x, 1 ≤ (w x).length) : ∀ l : List α, l.length ≤ (l.flatMap w).length
  | [] => by simp
  | x :: l => by
    have := len_flat hw l
    have := hw x
    simp only [List.flatMap_cons, List.length_append, List.length_cons]
    omega
theorem list_reads' {α : Type} {one : Rd → α × Rd} {w : α → List UInt8} {l : List α} (hw : ∀ x, 1 ≤ (w x).length) (hl : (listW w l).length ≤ 65536) (h : ∀ x ∈ l, (w x).length ≤ 65536 → Rds one (w x) x) : Rds (listRd one) (listW w l) l := by
  have h1 := len_flat hw l
  rw [listW, List.length_append] at hl
  refine list_reads (fun x hx => h x hx ?_) (by omega)
  have := len_mem (w := w) hx
  omega
theorem num_reads' {n : Int} (h : posN n) : Rds numRd (numW n) n.toNat := num_reads h.1 h.2
theorem text_reads' {s : List UInt8} (h : (textW s).length ≤ 65536) : Rds textRd (textW s) s := by
  have h1 := len_textW s
  have h2 : (2 : Nat) ^ 63 = 9223372036854775808 := by decide
  exact text_reads (by omega)
theorem nat_of {n : Int} (h : posN n) : ((n.toNat : Nat) : Int) = n := by have := h.1; omega
theorem txt_reads {x : TTxt} (h : posN x.cat) (hl : (txtW x).length ≤ 65536) : Rds txtRd (txtW x) x := by
  rw [txtW, List.length_append] at hl
  have h1 := rds_bnd (num_reads' h) (g := fun (c : Nat) => bnd textRd fun s => rtn (⟨(c : Int), s⟩ : TTxt)) (rds_bnd1 (b := fun s => (⟨(x.cat.toNat : Int), s⟩ : TTxt)) (text_reads' (s := x.text) (by omega)))
  rw [nat_of h] at h1
  exact h1
theorem txtW_pos (x : TTxt) : 1 ≤ (txtW x).length := by have := len_numW x.cat; rw [txtW, List.length_append]; omega
theorem rowW_pos (x : TRow) : 1 ≤ (rowW x).length := by have := len_numW x.mag; rw [rowW, List.length_append]; omega
theorem textW_pos (s : List UInt8) : 1 ≤ (textW s).length := by have := len_numW s.length; rw [textW, List.length_append]; omega
theorem untW_pos (x : TUnt) : 1 ≤ (untW x).length := by have := textW_pos x.name; rw [untW, List.length_append]; omega
theorem curW_pos (x : TCur) : 1 ≤ (curW x).length := by have := textW_pos x.code; rw [curW, List.length_append]; omega
theorem txts_reads {l : List TTxt} (h : posT l) (hl : (listW txtW l).length ≤ 65536) : Rds (listRd txtRd) (listW txtW l) l :=
  list_reads' txtW_pos hl fun x hx h1 => txt_reads (h x hx) h1
theorem row_reads {x : TRow} (h : posN x.mag ∧ posT x.texts) (hl : (rowW x).length ≤ 65536) : Rds rowRd (rowW x) x := by
  rw [rowW, List.length_append] at hl
  have h1 := rds_bnd (num_reads' h.1) (g := fun (c : Nat) => bnd (listRd txtRd) fun s => rtn (⟨(c : Int), s⟩ : TRow)) (rds_bnd1 (b := fun s => (⟨(x.mag.toNat : Int), s⟩ : TRow)) (txts_reads h.2 (by omega)))
  rw [nat_of h.1] at h1
  exact h1
theorem rows_reads {l : List TRow} (h : posR l) (hl : (listW rowW l).length ≤ 65536) : Rds (listRd rowRd) (listW rowW l) l :=
  list_reads' rowW_pos hl fun x hx h1 => row_reads (h x hx) h1
theorem unt_reads {x : TUnt} (h : posT x.texts) (hl : (untW x).length ≤ 65536) : Rds untRd (untW x) x := by
  rw [untW, List.length_append] at hl
  exact rds_bnd (text_reads' (by omega)) (g := fun c => bnd (listRd txtRd) fun s => rtn (⟨c, s⟩ : TUnt)) (rds_bnd1 (b := fun s => (⟨x.name, s⟩ : TUnt)) (txts_reads h (by omega)))
theorem cur_reads {c : TCur} (h : posT c.names ∧ posN c.digits ∧ posN c.inc ∧ posN c.cashDigits ∧ posN c.cashInc) (hl : (curW c).length ≤ 65536) : Rds curRd (curW c) c := by
  obtain ⟨h1, h2, h3, h4, h5⟩ := h
  simp only [curW, List.length_append] at hl
  have := rds_bnd (text_reads' (s := c.code) (by omega)) (g := fun a => bnd textRd fun b => bnd textRd fun c => bnd (listRd txtRd) fun n => bnd numRd fun d => bnd numRd fun e => bnd numRd fun f => bnd numRd fun g => rtn (⟨a, b, c, n, (d : Int), (e : Int), (f : Int), (g : Int)⟩ : TCur))
    (rds_bnd (text_reads' (s := c.symbol) (by omega)) (rds_bnd (text_reads' (s := c.narrow) (by omega)) (rds_bnd (txts_reads h1 (by omega)) (rds_bnd (num_reads' h2) (rds_bnd (num_reads' h3) (rds_bnd (num_reads' h4) (rds_bnd1 (num_reads' h5))))))))
  rw [nat_of h2, nat_of h3, nat_of h4, nat_of h5] at this
  exact this
theorem rds_bnd1' {α β : Type} {f : Rd → α × Rd} {b : α → β} {w : List UInt8} {a : α} {c : β} (h1 : Rds f w a) (h : b a = c) : Rds (bnd f fun x => rtn (b x)) w c := h ▸ rds_bnd1 h1
theorem rds_stp {α β : Type} {f : Rd → α × Rd} {g : α → Rd → β × Rd} {w v : List UInt8} {a : α} {b : β} {N : Nat} (h1 : w.length ≤ N → Rds f w a) (h2 : v.length ≤ N → Rds (g a) v b) : (w ++ v).length ≤ N → Rds (bnd f g) (w ++ v) b :=
  fun h => by
    rw [List.length_append] at h
    exact rds_bnd (h1 (by omega)) (h2 (by omega))
section
attribute [local irreducible] Rds bnd rtn textRd numRd textW numW listRd listW
theorem tab_reads {t : TTab} (h : t.pos) : (encF t).length ≤ 65536 → Rds tabRd (encF t) t := by
  obtain ⟨h1, h2, h3, h4, h5, h6, h7⟩ := h
  have e := nat_of h1
  rw [encF, tabRd]
  refine rds_stp (text_reads' (s := t.dg.d0)) ?_
  refine rds_stp (text_reads' (s := t.dg.d1)) ?_
  refine rds_stp (text_reads' (s := t.dg.d2)) ?_
  refine rds_stp (text_reads' (s := t.dg.d3)) ?_
  refine rds_stp (text_reads' (s := t.dg.d4)) ?_
  refine rds_stp (text_reads' (s := t.dg.d5)) ?_
  refine rds_stp (text_reads' (s := t.dg.d6)) ?_
  refine rds_stp (text_reads' (s := t.dg.d7)) ?_
  refine rds_stp (text_reads' (s := t.dg.d8)) ?_
  refine rds_stp (text_reads' (s := t.dg.d9)) ?_
  refine rds_stp (text_reads' (s := t.minus)) ?_
  refine rds_stp (text_reads' (s := t.plus)) ?_
  refine rds_stp (text_reads' (s := t.percent)) ?_
  refine rds_stp (text_reads' (s := t.permille)) ?_
  refine rds_stp (text_reads' (s := t.point)) ?_
  refine rds_stp (text_reads' (s := t.comma)) ?_
  refine rds_stp (text_reads' (s := t.decimal)) ?_
  refine rds_stp (text_reads' (s := t.per)) ?_
  refine rds_stp (text_reads' (s := t.money)) ?_
  refine rds_stp (text_reads' (s := t.account)) ?_
  refine rds_stp (text_reads' (s := t.rules)) ?_
  refine rds_stp (text_reads' (s := t.before.cur)) ?_
  refine rds_stp (text_reads' (s := t.before.num)) ?_
  refine rds_stp (text_reads' (s := t.before.ins)) ?_
  refine rds_stp (text_reads' (s := t.after.cur)) ?_
  refine rds_stp (text_reads' (s := t.after.num)) ?_
  refine rds_stp (text_reads' (s := t.after.ins)) ?_
  refine rds_stp (fun _ => num_reads' h1) ?_
  refine rds_stp (rows_reads h2) ?_
  refine rds_stp (rows_reads h3) ?_
  refine rds_stp (rows_reads h4) ?_
  refine rds_stp (fun hl => list_reads' curW_pos hl fun x hx hz => cur_reads (h6 x hx) hz) ?_
  refine rds_stp (fun hl => list_reads' untW_pos hl fun x hx hz => unt_reads (h7 x hx) hz) ?_
  refine fun hl => rds_bnd1' (txts_reads h5 hl) ?_
  simp only [e]
end
theorem dec_enc {t : TTab} (h : t.pos) (hl : (encF t).length ≤ 65536) : decF (encF t) = (t, 0) := by
  have := tab_reads h hl ⟨encF t, 0, false⟩ [] ⟨rfl, Nat.zero_le _, by simp⟩
  obtain ⟨e1, ⟨b1, l1, d1⟩, s1⟩ := this
  rw [s1] at l1 d1
  have hp : (tabRd ⟨encF t, 0, false⟩).2.p = (encF t).length := by
    have := List.drop_eq_nil_iff.1 d1
    simp only at this l1
    omega
  rw [decF, if_neg (by omega), if_neg (by rw [b1, hp]; simp), e1]
end Go.Proofs.YtijdnjngfkohfaaGreatDoor
