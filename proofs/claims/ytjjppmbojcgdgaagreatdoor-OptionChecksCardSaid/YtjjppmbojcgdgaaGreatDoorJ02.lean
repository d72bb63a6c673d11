/- Where a text is not UTF-8: walked, for a range over a text makes an iterator. -/
import Derived.Test.YtjjppmbojcgdgaaGreatDoorJ01
import Derived.Lib.OthersKept
import Derived.Deep.LoopGhost
import Derived.Lib.TrimU
import Derived.Laws.Strings3
set_option linter.unusedVariables false
set_option linter.unusedSimpArgs false
set_option maxRecDepth 100000
set_option maxHeartbeats 4000000

namespace Go.Proofs.YtjjppmbojcgdgaaGreatDoor
open Go Go.Abs
attribute [local irreducible] DrawW CallW RetW AC Does CmpW
def rightF (s : List UInt8) : Bool := Lib.validD s
theorem ValidString_does (m : Int) (s : List UInt8) (hs : s.length < 4294967296) : Does Tryz.prog (GL m) 233 [.str s] [] fun ae _ => ae = .ret (.bool (rightF s)) :=
  Does.of_calls (v := .bool (rightF s)) Tryz.func233 rfl rfl (fun C => by simp [RepF]) fun C cargs hg hr => by
    rw [rep_str1 hr]
    exact Any.utf8_ValidString Tryz.laysValid ⟨⟨s⟩⟩ C.w (by simp [str_size]; omega) (tabs hg)
def runesF (s : List UInt8) : Nat := Lib.runeCount ⟨⟨s⟩⟩
theorem RuneCount_does (G : Globs) (s : List UInt8) (hs : s.length < 4294967296) : Does Tryz.prog G 232 [.str s] [] fun ae _ => ae = .ret (.int .i64 (runesF s)) :=
  Does.of_calls (v := .int .i64 (runesF s)) Tryz.func232 rfl rfl (fun C => by simp [RepF]) fun C cargs hg hr => by
    rw [rep_str1 hr]
    refine (Tryz.utf8_RuneCountInString ⟨⟨s⟩⟩ C.w (by simp [str_size]; omega)).mono ?_
    rintro e w' ⟨rfl, pos, rfl⟩
    exact ⟨rfl, (RowKit.Below.refl _ _).alloc (Nat.le_refl _) _⟩
theorem Right_does (m : Int) (s : List UInt8) (hs : s.length < 4294967296) : Does Tryz.prog (GL m) 175 [.str s] [] fun ae _ => ae = .ret (.bool (rightF s)) := by
  refine Does.body tab Tryz.func175 rfl rfl ?_
  refine gos ?_
  refine CallW.pure (ValidString_does m s hs) rfl rfl ?_
  refine gos ?_
  exact RetW.plain (by simp) rfl
def oneF (s : List UInt8) : Bool := rightF s && (runesF s == 1)
theorem GOne_does (m : Int) (s : List UInt8) (hs : s.length < 4294967296) : Does Tryz.prog (GL m) 174 [.str s] [] fun ae _ => ae = .ret (.bool (oneF s)) := by
  refine Does.body tab Tryz.func174 rfl rfl ?_
  refine gos ?_
  refine CallW.pure (Right_does m s hs) rfl rfl ?_
  cases h : rightF s with
  | false =>
    refine gos ?_
    refine RetW.plain (by simp) ?_
    simp [oneF, h]
  | true =>
    refine gos ?_
    refine CallW.pure (RuneCount_does _ s hs) rfl rfl ?_
    refine gos ?_
    by_cases h1 : runesF s = 1
    · refine CmpW.t (by simp; omega) ?_
      refine gos ?_
      refine RetW.plain (by simp) ?_
      simp [oneF, h, h1]
    · refine CmpW.f (by simp; omega) ?_
      refine gos ?_
      refine RetW.plain (by simp) ?_
      simp [oneF, h, h1]
def newL (t : List UInt8) : List (List UInt8) → Bool
  | [] => true
  | x :: xs => if t = x then false else newL t xs
def setL (ds : List (List UInt8)) : Nat → Nat → Bool
  | 0, _ => true
  | f + 1, i => match ds[i]? with
    | none => true
    | some d => oneF d && newL d (ds.take i) && setL ds f (i + 1)
def setF (ds : List (List UInt8)) : Bool := setL ds 10 0
theorem idx_str {ds : List (List UInt8)} {k : Nat} {d : List UInt8} {K : AV → Prop} (h : ds[k]? = some d) (hk : K (.str d)) : dropK (ds.map AV.str) (k * ti9.size) fun cs => cellsK TY 9 cs K := by
  obtain ⟨hlt, hd⟩ := List.getElem?_eq_some_iff.1 h
  refine dropK_of (by rw [List.length_map]; show k * 1 ≤ _; omega) ?_
  have e1 : (ds.map AV.str).drop (k * ti9.size) = AV.str d :: (ds.map AV.str).drop (k + 1) := by
    show (ds.map AV.str).drop (k * 1) = _
    rw [Nat.mul_one, List.drop_eq_getElem_cons (by rw [List.length_map]; exact hlt)]
    simp [hd]
  rw [e1]
  exact hk
theorem newL_false {t : List UInt8} : ∀ {xs : List (List UInt8)} {k : Nat}, xs[k]? = some t → newL t xs = false
  | [], k, h => by simp at h
  | x :: xs, 0, h => by simp at h; simp [newL, h]
  | x :: xs, k + 1, h => by
    simp only [newL]
    split
    · rfl
    · exact newL_false (k := k) (by simpa using h)
theorem newL_true {t : List UInt8} : ∀ {xs : List (List UInt8)}, (∀ (k : Nat) (x : List UInt8), xs[k]? = some x → t ≠ x) → newL t xs = true
  | [], _ => rfl
  | x :: xs, h => by
    simp only [newL]
    rw [if_neg (h 0 x rfl)]
    exact newL_true fun k y hy => h (k + 1) y (by simpa using hy)
theorem SetValid_does (m : Int) (d0 d1 d2 d3 d4 d5 d6 d7 d8 d9 : List UInt8) (hs : ∀ d ∈ [d0, d1, d2, d3, d4, d5, d6, d7, d8, d9], d.length < 4294967296) :
    Does Tryz.prog (GL m) 81 [.agg [.str d0, .str d1, .str d2, .str d3, .str d4, .str d5, .str d6, .str d7, .str d8, .str d9]] [] fun ae _ => ae = .ret (.bool (setF [d0, d1, d2, d3, d4, d5, d6, d7, d8, d9])) := by
  obtain ⟨ds, hds⟩ : ∃ ds, ds = [d0, d1, d2, d3, d4, d5, d6, d7, d8, d9] := ⟨_, rfl⟩
  have hlen : ds.length = 10 := by rw [hds]; rfl
  rw [← hds] at hs ⊢
  refine Does.bodyA tab Tryz.func81 rfl rfl ?_
  refine AC.step tab ?_
  refine gos ?_
  intro v1
  refine gos ?_
  refine AC.wk (Wk.ptr (k := 1) (i := 0) rfl rfl rfl rfl rfl) ?_
  refine AC.cutF tab (fun e h => setF ds = true ∧ e = List.replicate 27 .any ∧ h = [none]) ?_ ?_
  · refine gos ?_
    refine AC.loopC tab (fun f e h => ∃ i : Nat, f + i = 11 ∧ i ≤ 10 ∧ setF ds = setL ds (10 - i) i ∧
      e = [.any, .fptr [.str d0, .str d1, .str d2, .str d3, .str d4, .str d5, .str d6, .str d7, .str d8, .str d9], .any, .any, .any, .any, .any, .agg [.str d0, .str d1, .str d2, .str d3, .str d4, .str d5, .str d6, .str d7, .str d8, .str d9], .int .i64 i] ++ List.replicate 18 .any ∧ h = [none]) 11 ⟨_, fgts, 0, by omega, by omega, rfl, rfl, rfl⟩ ?_
    rintro f e h ⟨i, hf, hi, hF, rfl, rfl⟩
    refine gos ?_
    by_cases h10 : i < 10
    · obtain ⟨d, hd⟩ : ∃ d, ds[i]? = some d := ⟨_, List.getElem?_eq_getElem (by omega)⟩
      have hdm : d.length < 4294967296 := hs d (List.mem_of_getElem? hd)
      rw [show 10 - i = (10 - (i + 1)) + 1 by omega] at hF
      simp only [setL, hd] at hF
      refine CmpW.T ?_
      refine gos ?_
      refine And.intro (And.intro (by omega) (by omega)) (idx_str (ds := [d0, d1, d2, d3, d4, d5, d6, d7, d8, d9]) (by rw [← hds]; exact hd) ?_)
      refine gos ?_
      refine CallW.pure (GOne_does m d hdm) rfl rfl ?_
      cases h1 : oneF d with
      | false =>
        refine gos ?_
        refine RetW.plain (by simp) ?_
        rw [hF, h1]; rfl
      | true =>
        rw [h1, Bool.true_and] at hF
        refine gos ?_
        refine And.intro (And.intro rfl (by simp)) ?_
        refine And.intro (And.intro (by omega) (And.intro (by omega) (by omega))) ?_
        obtain ⟨ES, hES⟩ : ∃ ES, ES = List.map (fun c => [c]) (List.drop (Int.toNat 0) (List.take (Int.toNat (i : Int)) [AV.str d0, AV.str d1, AV.str d2, AV.str d3, AV.str d4, AV.str d5, AV.str d6, AV.str d7, AV.str d8, AV.str d9])) := ⟨_, rfl⟩
        rw [← hES]
        have hE2 : ES = (ds.take i).map fun t => [AV.str t] := by rw [hES, hds]; simp [List.map_take]
        have hEl : ES.length = i := by rw [hE2]; simp; omega
        clear hES
        refine gos ?_
        rw [hEl]
        refine AC.loopC tab (fun g e h => ∃ k : Nat, g + k = i + 1 ∧ k ≤ i ∧ (∀ j t, j < k → (ds.take i)[j]? = some t → d ≠ t) ∧
          e = [.any, .fptr [.str d0, .str d1, .str d2, .str d3, .str d4, .str d5, .str d6, .str d7, .str d8, .str d9], .any, .any, .str d, .any, .any, .agg [.str d0, .str d1, .str d2, .str d3, .str d4, .str d5, .str d6, .str d7, .str d8, .str d9], .int .i64 i, .any, .any, .any, .any, .any, .any, .any, .fsl ES, .int .i64 i, .int .i64 k] ++ List.replicate 8 .any ∧ h = [none]) (i + 1) ⟨_, fgts, 0, by omega, by omega, (fun j t hj => by omega), rfl, rfl⟩ ?_
        rintro g e h ⟨k, hg, hk, hall, rfl, rfl⟩
        refine gos ?_
        by_cases hki : k < i
        · obtain ⟨t, ht⟩ : ∃ t, (ds.take i)[k]? = some t := ⟨_, List.getElem?_eq_getElem (by simp; omega)⟩
          refine CmpW.T ?_
          refine gos ?_
          refine And.intro (fun y hy => by rw [hE2] at hy; obtain ⟨z, _, rfl⟩ := List.mem_map.1 hy; rfl) (And.intro (by omega) ⟨[.str t], by rw [hE2, Int.toNat_natCast, List.getElem?_map, ht]; rfl, ?_⟩)
          refine gos ?_
          by_cases hdt : d = t
          · refine CmpW.t (by simpa using hdt) ?_
            refine gos ?_
            refine RetW.plain (by simp) ?_
            rw [hF, newL_false (k := k) (by rw [hdt]; exact ht)]; rfl
          · refine CmpW.f (by simpa using hdt) ?_
            refine gos ?_
            refine ⟨g - 1, _, 1, by omega, fgts, k + 1, by omega, by omega, (fun j u hj hu => ?_), rfl, rfl⟩
            by_cases hjk : j = k
            · subst hjk; rw [ht] at hu; cases hu; exact hdt
            · exact hall j u (by omega) hu
        · refine CmpW.N ?_
          refine gos ?_
          rw [newL_true (fun j u hu => hall j u (by have := (List.getElem?_eq_some_iff.1 hu).1; simp at this; omega) hu), Bool.true_and] at hF
          exact ⟨f - 1, _, 1, by omega, fgts, i + 1, by omega, by omega, hF, rfl, rfl⟩
    · refine CmpW.N ?_
      refine gos ?_
      have : i = 10 := by omega
      subst this
      exact ⟨_, 1, fgts, hF, rfl, rfl⟩
  rintro e h ⟨hF, rfl, rfl⟩
  refine AC.go tab ?_
  refine gos ?_
  refine RetW.plain (by simp) ?_
  rw [hF]
def sonL (t : List UInt8) : List (List UInt8) → Nat → Option (Nat × Nat)
  | [], _ => none
  | d :: ds, i => if d ≠ [] ∧ d.isPrefixOf t = true then some (i, d.length) else sonL t ds (i + 1)
def sonF (ds : List (List UInt8)) (t : List UInt8) : Option (Nat × Nat) := sonL t ds 0
def sonV (r : Option (Nat × Nat)) : AV := match r with
  | some (d, n) => .tuple [.int .i64 d, .int .i64 n]
  | none => .tuple [.int .i64 (-1), .int .i64 0]
theorem SetOne_does (G : Globs) (d0 d1 d2 d3 d4 d5 d6 d7 d8 d9 t : List UInt8) :
    Does Tryz.prog G 176 [.agg [.str d0, .str d1, .str d2, .str d3, .str d4, .str d5, .str d6, .str d7, .str d8, .str d9], .str t] [] fun ae _ => ae = .ret (sonV (sonF [d0, d1, d2, d3, d4, d5, d6, d7, d8, d9] t)) := by
  obtain ⟨ds, hds⟩ : ∃ ds, ds = [d0, d1, d2, d3, d4, d5, d6, d7, d8, d9] := ⟨_, rfl⟩
  have hlen : ds.length = 10 := by rw [hds]; rfl
  rw [← hds]
  refine Does.bodyA tab Tryz.func176 rfl rfl ?_
  refine AC.step tab ?_
  refine gos ?_
  intro v1
  refine gos ?_
  refine AC.wk (Wk.ptr (k := 2) (i := 0) rfl rfl rfl rfl rfl) ?_
  refine AC.cutF tab (fun e h => sonF ds t = none ∧ e = List.replicate 24 .any ∧ h = [none]) ?_ ?_
  · refine gos ?_
    refine AC.loopC tab (fun f e h => ∃ i : Nat, f + i = 11 ∧ i ≤ 10 ∧ sonF ds t = sonL t (ds.drop i) i ∧
      e = [.any, .str t, .any, .any, .any, .any, .any, .any, .agg [.str d0, .str d1, .str d2, .str d3, .str d4, .str d5, .str d6, .str d7, .str d8, .str d9], .int .i64 i] ++ List.replicate 14 .any ∧ h = [none]) 11 ⟨_, fgts, 0, by omega, by omega, rfl, rfl, rfl⟩ ?_
    rintro f e h ⟨i, hf, hi, hF, rfl, rfl⟩
    refine gos ?_
    by_cases h10 : i < 10
    · obtain ⟨d, hd⟩ : ∃ d, ds[i]? = some d := ⟨_, List.getElem?_eq_getElem (by omega)⟩
      have hdr : ds.drop i = d :: ds.drop (i + 1) := by
        rw [List.drop_eq_getElem_cons (by omega)]
        have := List.getElem?_eq_some_iff.1 hd
        rw [this.2]
      rw [hdr] at hF
      simp only [sonL] at hF
      refine CmpW.T ?_
      refine gos ?_
      refine And.intro (And.intro (by omega) (by omega)) (idx_str (ds := [d0, d1, d2, d3, d4, d5, d6, d7, d8, d9]) (by rw [← hds]; exact hd) ?_)
      refine gos ?_
      by_cases h0 : d = []
      · refine CmpW.f (by simpa using h0) ?_
        refine gos ?_
        rw [if_neg (by simp [h0])] at hF
        exact ⟨f - 1, _, 1, by omega, fgts, i + 1, by omega, by omega, hF, rfl, rfl⟩
      · refine CmpW.t (by simpa using h0) ?_
        refine gos ?_
        refine CallW.pure (HasPrefix_does G _ _) rfl rfl ?_
        cases hp : d.isPrefixOf t with
        | true =>
          rw [if_pos ⟨h0, hp⟩] at hF
          refine gos ?_
          refine RetW.plain (by simp) ?_
          rw [hF]; rfl
        | false =>
          rw [if_neg (by simp [hp])] at hF
          refine gos ?_
          exact ⟨f - 1, _, 1, by omega, fgts, i + 1, by omega, by omega, hF, rfl, rfl⟩
    · refine CmpW.N ?_
      refine gos ?_
      have : i = 10 := by omega
      subst this
      rw [List.drop_of_length_le (by omega)] at hF
      exact ⟨_, 1, fgts, hF, rfl, rfl⟩
  rintro e h ⟨hF, rfl, rfl⟩
  refine AC.go tab ?_
  refine gos ?_
  refine RetW.plain (by simp) ?_
  rw [hF]; rfl
end Go.Proofs.YtjjppmbojcgdgaaGreatDoor

namespace Go.Proofs.YtjjppmbojcgdgaaGreatDoor
open Go Go.Abs
theorem u8_of {c d : UInt8} {n : Int} (h : (c.toNat : Int) = n) (hd : (d.toNat : Int) = n) : c = d := UInt8.toNat_inj.1 (by omega)
def tw (s : List UInt8) (p : UInt8 → Bool) (a : Nat) : Nat := ((s.drop a).takeWhile p).length
theorem twl_in (p : UInt8 → Bool) : ∀ (l : List UInt8) (n : Nat), n < (l.takeWhile p).length → ∃ c, l[n]? = some c ∧ p c = true
  | [], n, h => by simp at h
  | c :: l, n, h => by
    by_cases hp : p c = true
    · cases n with
      | zero => exact ⟨c, rfl, hp⟩
      | succ n => simp [hp] at h; simpa using twl_in p l n h
    · simp [hp] at h
theorem twl_at (p : UInt8 → Bool) : ∀ (l : List UInt8) (c : UInt8), l[(l.takeWhile p).length]? = some c → p c = false
  | [], c, h => by simp at h
  | d :: l, c, h => by
    by_cases hp : p d = true
    · simp [hp] at h; exact twl_at p l c h
    · simp [hp] at h; subst h; simpa using hp
theorem tw_in {s : List UInt8} {p : UInt8 → Bool} {a n : Nat} (h : n < tw s p a) : ∃ c, s[a + n]? = some c ∧ p c = true := by
  obtain ⟨c, h1, h2⟩ := twl_in p _ n h
  rw [List.getElem?_drop] at h1
  exact ⟨c, h1, h2⟩
theorem tw_at {s : List UInt8} {p : UInt8 → Bool} {a : Nat} {c : UInt8} (h : s[a + tw s p a]? = some c) : p c = false := by
  refine twl_at p (s.drop a) c ?_
  rw [List.getElem?_drop]; exact h
theorem tw_le {s : List UInt8} (p : UInt8 → Bool) {a : Nat} (h : a ≤ s.length) : a + tw s p a ≤ s.length := by
  have := (List.takeWhile_prefix p (l := s.drop a)).length_le
  rw [List.length_drop] at this
  unfold tw; omega
theorem tw_go {s : List UInt8} {p : UInt8 → Bool} {a n : Nat} {c : UInt8} (h : n ≤ tw s p a) (hc : s[a + n]? = some c) (hp : p c = true) : n + 1 ≤ tw s p a := by
  by_cases e : n = tw s p a
  · subst e; rw [tw_at hc] at hp; cases hp
  · omega
theorem tw_stop {s : List UInt8} {p : UInt8 → Bool} {a n : Nat} (h : n ≤ tw s p a) (hc : ∀ c, s[a + n]? = some c → p c = false) : n = tw s p a := by
  by_cases e : n = tw s p a
  · exact e
  · obtain ⟨c, h1, h2⟩ := tw_in (s := s) (p := p) (a := a) (n := n) (by omega)
    rw [hc c h1] at h2; cases h2
theorem tw_text (s : List UInt8) (p : UInt8 → Bool) (a : Nat) : (s.take (a + tw s p a)).drop a = (s.drop a).takeWhile p := by
  rw [List.drop_take, Nat.add_sub_cancel_left]
  exact (List.prefix_iff_eq_take.1 (List.takeWhile_prefix p)).symm
def bl (s : List UInt8) (a : Nat) : Nat := a + tw s (fun c => c == 32) a
theorem bl_le {s : List UInt8} {a : Nat} (h : a ≤ s.length) : a ≤ bl s a ∧ bl s a ≤ s.length := ⟨by unfold bl; omega, tw_le _ h⟩
end Go.Proofs.YtjjppmbojcgdgaaGreatDoor

namespace Go.Proofs.YtjjppmbojcgdgaaGreatDoor
open Go Go.Abs Go.RowKit
def wroL (s : ByteArray) : Nat → Nat → Int
  | 0, _ => -1
  | f + 1, pos => if pos < s.size then
      if (Utf8.decode s pos).1 = 65533 ∧ (Lib.decodeGo (s.extract pos s.size)).2 < 2 then pos else wroL s f (pos + (Utf8.decode s pos).2)
    else -1
theorem wroL_end (s : ByteArray) (f pos : Nat) (h : ¬ pos < s.size) : wroL s f pos = -1 := by
  cases f <;> simp [wroL, h]
theorem tabs_below {w w' : World} {B : Nat} (h : Lib.Utf8Tabs 0 1 w) (hb : Below B w w') (h1 : 0 < B) (h2 : 1 < B) : Lib.Utf8Tabs 0 1 w' := by
  obtain ⟨a1, a2⟩ := h
  refine ⟨fun c hc => ?_, fun i hi => ?_⟩
  · rw [World.cell?_of_block (hb.block _ h1)]; exact a1 c hc
  · rw [World.cell?_of_block (hb.block _ h2), World.cell?_of_block (hb.block _ h2)]; exact a2 i hi
set_option maxHeartbeats 2000000 in
set_option maxRecDepth 1000000 in
theorem wrong_walk (s : ByteArray) (w : World) (hs : s.size < 4294967296) (hT : Lib.Utf8Tabs 0 1 w) (h1 : 0 < w.heap.size) (h2 : 1 < w.heap.size) :
    Calls Tryz.prog 192 #[.string s] w fun e w' => e = .returned (.int .i64 (wroL s s.size 0)) ∧ Below w.heap.size w w' := by
  go_enter Tryz.func192, Tryz.ntmps192
  go_wp2
  go_loopg [] s.size (fun g wx => ∃ pos : Nat, wx.heap[w.heap.size]? = some (.stringIter s pos) ∧ Below w.heap.size w wx ∧ wroL s g pos = wroL s s.size 0 ∧ s.size ≤ pos + g)
  case atStart => exact ⟨0, World.iter_heap w s 0, (Below.refl _ w).alloc (Nat.le_refl _) _, rfl, by omega⟩
  case round =>
    obtain ⟨pos, hit, hbw, hleft, hfu⟩ := hrel
    have hsz : w.heap.size < wr.heap.size := (Array.getElem?_eq_some_iff.1 hit).1
    by_cases hp : pos < s.size
    · obtain ⟨g, rfl⟩ : ∃ g, gk = g + 1 := ⟨gk - 1, by omega⟩
      have hnx : ∀ ty, (Instr.next (.pointer (some ⟨w.heap.size, 0, none⟩)) true ty).run Tryz.prog wr = _ := fun ty => Lib.run_next_any_at wr w.heap.size s pos ty hit hp
      have hwd := Lib.width_pos s pos
      have hr1 := Lib.rune_le s pos
      obtain ⟨R, hR⟩ : ∃ R, (Utf8.decode s pos).1 = R := ⟨_, rfl⟩
      obtain ⟨K, hK⟩ : ∃ K, (Utf8.decode s pos).2 = K := ⟨_, rfl⟩
      simp only [wroL, hp, if_true, hR, hK] at hleft
      rw [hR, hK] at hnx
      rw [hR] at hr1
      rw [hK] at hwd
      have hit2 := Lib.iterAt_heap wr w.heap.size s pos (pos + K) hit
      have hbw2 := Lib.below_iterAt hbw (k := w.heap.size) (Nat.le_refl _) s (pos + K)
      obtain ⟨W, hWd⟩ : ∃ W, wr.iterAt w.heap.size s (pos + K) = W := ⟨_, rfl⟩
      rw [hWd] at hnx hit2 hbw2
      have cS := Tryz.utf8_DecodeRuneInString (s.extract pos s.size) W (tabs_below hT hbw2 h1 h2)
      have hWs : w.heap.size < W.heap.size := (Array.getElem?_eq_some_iff.1 hit2).1
      obtain ⟨D, hD⟩ : ∃ D, (Lib.decodeGo (s.extract pos s.size)).2 = D := ⟨_, rfl⟩
      rw [hD] at hleft cS
      by_cases hR2 : R = 65533
      · subst hR2
        by_cases hD2 : D < 2
        · rw [if_pos ⟨rfl, hD2⟩] at hleft
          have hD3 : (D : Int) < 2 := by omega
          replace hleft := hleft.symm
          go_wp2_with (go_at_call 154; go_fit cS; rintro e W' ⟨rfl, hb⟩)
          go_ret
          exact ⟨by simp [hleft], hbw2.trans (hb.mono (by omega))⟩
        · rw [if_neg (by omega)] at hleft
          have hD3 : ¬ (D : Int) < 2 := by omega
          go_wp2_with (go_at_call 154; go_fit cS; rintro e W' ⟨rfl, hb⟩)
          go_roundg g
          case measure => omega
          case rel => exact ⟨pos + K, (hb.block w.heap.size hWs).trans hit2, hbw2.trans (hb.mono (by omega)), hleft, by omega⟩
      · rw [if_neg (by omega)] at hleft
        have hR3 : (R : Int) ≠ 65533 := by omega
        go_wp2_with (go_at_call 154; go_fit cS; rintro e W' ⟨rfl, hb⟩)
        go_roundg g
        case measure => omega
        case rel => exact ⟨pos + K, (hb.block w.heap.size hWs).trans hit2, hbw2.trans (hb.mono (by omega)), hleft, by omega⟩
    · have hnx : ∀ ty, (Instr.next (.pointer (some ⟨w.heap.size, 0, none⟩)) true ty).run Tryz.prog wr = _ := fun ty => Lib.run_next_end_at wr w.heap.size s pos ty hit hp
      rw [wroL_end s gk pos hp] at hleft
      go_wp2
      go_ret
      exact ⟨by rw [← hleft] <;> rfl, hbw⟩
end Go.Proofs.YtjjppmbojcgdgaaGreatDoor
