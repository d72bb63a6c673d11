/- How many pieces of a kind a pattern's sides have. -/
import Derived.Test.YtpipbjfcbbdicaaGreatDoorJ08
import Derived.Test.YtpipbjfcbbdicaaGreatDoorJ01
import Derived.Lib.OthersKept
import Derived.Deep.LoopGhost
import Derived.Lib.TrimU
import Derived.Laws.Strings3
import Derived.Test.YtpipbjfcbbdicaaGreatDoorAbsC
import Derived.Test.YtpipbjfcbbdicaaGreatDoorJ05
set_option linter.unusedVariables false
set_option linter.unusedSimpArgs false
set_option maxRecDepth 100000
set_option maxHeartbeats 4000000

namespace Go.Proofs.YtpipbjfcbbdicaaGreatDoor
open Go Go.Abs
attribute [local irreducible] DrawW CallW RetW AC Does CmpW
set_option maxRecDepth 100000

theorem affL_le (s : List UInt8) : ∀ f a out ps b, a ≤ s.length → affL s f a out = some (ps, b) → b ≤ s.length
  | 0, a, out, ps, b, _, h => by simp [affL] at h
  | f + 1, a, out, ps, b, ha, h => by
    unfold affL at h
    split at h
    · rename_i hs
      exact affL_le s f _ _ ps b (signF_t ha hs).2.1 h
    · split at h
      · cases h
      · rename_i t ok b' hl
        split at h
        · rename_i hok
          have : ok = false := by simpa using hok
          subst this
          have := litF_f hl
          simp at h
          omega
        · rename_i hok
          have : ok = true := by simpa using hok
          subst this
          have h2 := litF_t ha hl
          split at h
          · exact affL_le s f _ _ ps b h2.2.1 h
          · exact affL_le s f _ _ ps b h2.2.1 h
theorem affF_le {s : List UInt8} {a : Nat} {ps : List Piece} {b : Nat} (ha : a ≤ s.length) (h : affF s a = some (ps, b)) : b ≤ s.length := affL_le s _ a [] ps b ha h
theorem numF_le {s : List UInt8} {a : Nat} {N : Num} {b : Nat} (ha : a ≤ s.length) (h : numF s a = .ok (N, b)) : b ≤ s.length := by
  unfold numF at h
  split at h
  · cases h
  · rename_i N' b' hw
    have k := whoF_keeps ha hw
    split at h
    · rename_i hp
      have hle := pre_le hp (by simp)
      simp only [List.length_cons, List.length_nil] at hle
      have k1 := cntN_le s 48 s.length (b' + 1) (by omega)
      have k2 := cntN_le s 35 s.length (b' + 1 + cntN s 48 s.length (b' + 1)) k1
      split at h
      · cases h
      · simp at h; omega
    · simp at h; omega

structure PatV where
  pre : List Piece
  suf : List Piece
  npre : List Piece
  nsuf : List Piece
  two : Bool
  N : Num
def encL (ps : List Piece) : AV := .fsl (ps.map encP)
def affV (v : PatV) : Aff := ⟨encL v.pre, encL v.suf, if v.two then encL v.npre else .nils, if v.two then encL v.nsuf else .nils⟩
def encV (v : PatV) : AV := .agg (patCells (affV v) v.two v.N)

def affE (s : List UInt8) (a : Nat) : Except Nat (List Piece × Nat) := match affF s a with
  | none => .error s.length
  | some r => .ok r
def endE (s : List UInt8) (a : Nat) (v : PatV) : Except Nat PatV := if a < s.length then .error a else .ok v
/-- A pattern, or where it can't be read. -/
def patF (s : List UInt8) : Except Nat PatV :=
  match affE s 0 with
  | .error b => .error b
  | .ok (p, a1) => match numF s a1 with
    | .error b => .error b
    | .ok (N, a2) => match affE s a2 with
      | .error b => .error b
      | .ok (q, a3) =>
        if pre s a3 [59] then match affE s (a3 + 1) with
          | .error b => .error b
          | .ok (p', a5) => match numF s a5 with
            | .error b => .error b
            | .ok (_, a6) => match affE s a6 with
              | .error b => .error b
              | .ok (q', a7) => endE s a7 ⟨p, q, p', q', true, N⟩
        else endE s a3 ⟨p, q, [], [], false, N⟩
theorem affix_E {m : Int} (s : List UInt8) (a : Nat) (ha : a ≤ s.length) (hs : s.length < 1000000) (ver : Nat) :
    Does Tryz.prog (GL m) 114 [.ptr 0 ver 0 0] [some (rdr ver s a)] fun ae O => match affE s a with
      | .error b => ae = .panic (faultV b)
      | .ok r => ae = .ret (encL r.1) ∧ O = [some (rdr ver s r.2)] :=
  (affix_does s a ha hs ver).mono fun ae O h => by
    unfold affE
    cases hf : affF s a with
    | none => rw [hf] at h; exact h.1
    | some r => rw [hf] at h; exact h
theorem affE_le {s : List UInt8} {a : Nat} {ps : List Piece} {b : Nat} (ha : a ≤ s.length) (h : affE s a = .ok (ps, b)) : b ≤ s.length := by
  unfold affE at h
  split at h
  · cases h
  · rename_i r hr; simp at h; subst h; exact affF_le ha hr

set_option maxHeartbeats 4000000 in
theorem pattern_does {m : Int} (s : List UInt8) (ver : Nat) (hs : s.length < 100000) :
    Does Tryz.prog (GL m) 87 [.ptr 0 ver 0 0] [some (rdr ver s 0)] fun ae O => match patF s with
      | .error b => ae = .panic (faultV b)
      | .ok v => ae = .ret (encV v) := by
  refine Does.body tab Tryz.func87 rfl rfl ?_
  refine gos ?_
  intro v1
  refine gos ?_
  intro v2
  refine gos ?_
  intro v3
  refine gos ?_
  refine CallW.of1p 0 (affix_E s 0 (by omega) (by omega) ver) rfl rfl rfl rfl ?_
  intro ae O hA
  cases hE : affE s 0 with
  | error b =>
    rw [hE] at hA
    subst hA
    refine ⟨rfl, fun s' hl => ?_⟩
    refine gos ?_
    refine ⟨by rw [hl]; simp, ?_⟩
    simp only [patF, hE]
  | ok r =>
    obtain ⟨p, a1⟩ := r
    rw [hE] at hA
    obtain ⟨rfl, rfl⟩ := hA
    have h1 := affE_le (by omega) hE
    refine ⟨_, rfl, rfl, rfl, ?_⟩
    refine gos ?_
    refine CallW.of2 0 2 (number_does s a1 ver v2 ⟨encL p, .nils, .nils, .nils⟩ ⟨rfl, rfl, rfl, rfl⟩ false h1 (by omega)) (by decide) rfl rfl rfl (patO_closed ⟨rfl, rfl, rfl, rfl⟩) rfl rfl ?_
    intro ae O hA
    have hE1 := hE
    cases hE : numF s a1 with
    | error b =>
      rw [hE] at hA
      subst hA
      refine ⟨rfl, fun s' hl => ?_⟩
      refine gos ?_
      refine ⟨by rw [hl]; simp, ?_⟩
      simp only [patF, hE1, hE]
    | ok r =>
      obtain ⟨N, a2⟩ := r
      rw [hE] at hA
      obtain ⟨rfl, rfl⟩ := hA
      have h2 := numF_le h1 hE
      refine ⟨_, _, rfl, rfl, patO_closed ⟨rfl, rfl, rfl, rfl⟩, rfl, ?_⟩
      refine gos ?_
      refine CallW.of1p 0 (affix_E s a2 h2 (by omega) ver) rfl rfl rfl rfl ?_
      intro ae O hA
      have hE2 := hE
      cases hE : affE s a2 with
      | error b =>
        rw [hE] at hA
        subst hA
        refine ⟨rfl, fun s' hl => ?_⟩
        refine gos ?_
        refine ⟨by rw [hl]; simp, ?_⟩
        simp only [patF, hE1, hE2, hE]
      | ok r =>
        obtain ⟨q, a3⟩ := r
        rw [hE] at hA
        obtain ⟨rfl, rfl⟩ := hA
        have h3 := affE_le h2 hE
        have hE3 := hE
        refine ⟨_, rfl, rfl, rfl, ?_⟩
        refine gos ?_
        cases h4 : pre s a3 [59] with
        | false =>
          refine CallW.meth 0 (take_no h4 h3 _) rfl rfl rfl rfl rfl rfl ?_
          refine gos ?_
          refine DrawW.L ?_
          refine gos ?_
          have hp : patF s = endE s a3 ⟨p, q, [], [], false, N⟩ := by simp only [patF, hE1, hE2, hE3, h4]; rfl
          rw [hp]
          by_cases hb : a3 < s.length
          · refine CmpW.t (by simp; omega) ?_
            refine gos ?_
            refine CallW.of1 0 (fail_does s a3 ver) rfl rfl rfl rfl ?_
            rintro ae O ⟨rfl, rfl⟩
            refine ⟨_, rfl, rfl, rfl, ?_⟩
            refine gos ?_
            refine ⟨by simp, ?_⟩
            simp only [endE, if_pos hb]
          · refine CmpW.f (by simp; omega) ?_
            refine gos ?_
            refine RetW.plain (by simp) ?_
            simp only [endE, if_neg hb]
            rfl
        | true =>
          have hle := pre_le h4 (by simp)
          simp only [List.length_cons, List.length_nil] at hle
          refine CallW.meth 0 (take_yes 1 rfl h4 hle (by omega) _) rfl rfl rfl rfl rfl rfl ?_
          refine gos ?_
          refine CallW.of1p 0 (affix_E s (a3 + 1) hle (by omega) ver) rfl rfl rfl rfl ?_
          intro ae O hA
          cases hE : affE s (a3 + 1) with
          | error b =>
            rw [hE] at hA
            subst hA
            refine ⟨rfl, fun s' hl => ?_⟩
            refine gos ?_
            refine ⟨by rw [hl]; simp, ?_⟩
            simp only [patF, hE1, hE2, hE3, h4, hE, if_true]
          | ok r =>
            obtain ⟨p', a5⟩ := r
            rw [hE] at hA
            obtain ⟨rfl, rfl⟩ := hA
            have h5 := affE_le hle hE
            have hE5 := hE
            refine ⟨_, rfl, rfl, rfl, ?_⟩
            refine gos ?_
            refine CallW.of2 0 3 (number_does s a5 ver v3 ⟨.nils, .nils, .nils, .nils⟩ ⟨rfl, rfl, rfl, rfl⟩ false h5 (by omega)) (by decide) rfl rfl rfl (patO_closed ⟨rfl, rfl, rfl, rfl⟩) rfl rfl ?_
            intro ae O hA
            cases hE : numF s a5 with
            | error b =>
              rw [hE] at hA
              subst hA
              refine ⟨rfl, fun s' hl => ?_⟩
              refine gos ?_
              refine ⟨by rw [hl]; simp, ?_⟩
              simp only [patF, hE1, hE2, hE3, h4, hE5, hE, if_true]
            | ok r =>
              obtain ⟨N6, a6⟩ := r
              rw [hE] at hA
              obtain ⟨rfl, rfl⟩ := hA
              have h6 := numF_le h5 hE
              have hE6 := hE
              refine ⟨_, _, rfl, rfl, patO_closed ⟨rfl, rfl, rfl, rfl⟩, rfl, ?_⟩
              refine gos ?_
              refine CallW.of1p 0 (affix_E s a6 h6 (by omega) ver) rfl rfl rfl rfl ?_
              intro ae O hA
              cases hE : affE s a6 with
              | error b =>
                rw [hE] at hA
                subst hA
                refine ⟨rfl, fun s' hl => ?_⟩
                refine gos ?_
                refine ⟨by rw [hl]; simp, ?_⟩
                simp only [patF, hE1, hE2, hE3, h4, hE5, hE6, hE, if_true]
              | ok r =>
                obtain ⟨q', a7⟩ := r
                rw [hE] at hA
                obtain ⟨rfl, rfl⟩ := hA
                have h7 := affE_le h6 hE
                refine ⟨_, rfl, rfl, rfl, ?_⟩
                refine gos ?_
                refine DrawW.L ?_
                refine gos ?_
                have hp : patF s = endE s a7 ⟨p, q, p', q', true, N⟩ := by simp only [patF, hE1, hE2, hE3, h4, hE5, hE6, hE, if_true]
                rw [hp]
                by_cases hb : a7 < s.length
                · refine CmpW.t (by simp; omega) ?_
                  refine gos ?_
                  refine CallW.of1 0 (fail_does s a7 ver) rfl rfl rfl rfl ?_
                  rintro ae O ⟨rfl, rfl⟩
                  refine ⟨_, rfl, rfl, rfl, ?_⟩
                  refine gos ?_
                  refine ⟨by simp, ?_⟩
                  simp only [endE, if_pos hb]
                · refine CmpW.f (by simp; omega) ?_
                  refine gos ?_
                  refine RetW.plain (by simp) ?_
                  simp only [endE, if_neg hb]
                  rfl
end Go.Proofs.YtpipbjfcbbdicaaGreatDoor

namespace Go.Proofs.YtpipbjfcbbdicaaGreatDoor
open Go Go.Abs Go.RowKit

/-- Where a text is not UTF-8; below nought: nowhere. -/
def wroL (s : ByteArray) : Nat → Nat → Int
  | 0, _ => -1
  | f + 1, pos => if pos < s.size then
      if (Utf8.decode s pos).1 = 65533 ∧ (Lib.decodeGo (s.extract pos s.size)).2 < 2 then pos else wroL s f (pos + (Utf8.decode s pos).2)
    else -1
theorem wroL_end (s : ByteArray) (f pos : Nat) (h : ¬ pos < s.size) : wroL s f pos = -1 := by
  cases f <;> simp [wroL, h]
theorem tabs_below {w w' : World} {B : Nat} (h : Lib.Utf8Tabs 0 1 w) (hb : Below B w w') (h1 : 0 < B) (h2 : 1 < B) : Lib.Utf8Tabs 0 1 w' := by
  obtain ⟨a1, a2⟩ := h
  refine ⟨fun c hc => ?_, fun i hi => ?_⟩
  · rw [World.cell?_of_block (hb.block _ h1)]; exact a1 c hc
  · rw [World.cell?_of_block (hb.block _ h2), World.cell?_of_block (hb.block _ h2)]; exact a2 i hi

set_option maxHeartbeats 2000000 in
set_option maxRecDepth 1000000 in
theorem wrong_walk (s : ByteArray) (w : World) (hs : s.size < 4294967296) (hT : Lib.Utf8Tabs 0 1 w) (h1 : 0 < w.heap.size) (h2 : 1 < w.heap.size) :
    Calls Tryz.prog 85 #[.string s] w fun e w' => e = .returned (.int .i64 (wroL s s.size 0)) ∧ Below w.heap.size w w' := by
  go_enter Tryz.func85, Tryz.ntmps85
  go_wp2
  go_loopg [] s.size (fun g wx => ∃ pos : Nat, wx.heap[w.heap.size]? = some (.stringIter s pos) ∧ Below w.heap.size w wx ∧ wroL s g pos = wroL s s.size 0 ∧ s.size ≤ pos + g)
  case atStart => exact ⟨0, World.iter_heap w s 0, (Below.refl _ w).alloc (Nat.le_refl _) _, rfl, by omega⟩
  case round =>
    obtain ⟨pos, hit, hbw, hleft, hfu⟩ := hrel
    have hsz : w.heap.size < wr.heap.size := (Array.getElem?_eq_some_iff.1 hit).1
    by_cases hp : pos < s.size
    · obtain ⟨g, rfl⟩ : ∃ g, gk = g + 1 := ⟨gk - 1, by omega⟩
      have hnx : ∀ ty, (Instr.next (.pointer (some ⟨w.heap.size, 0, none⟩)) true ty).run Tryz.prog wr = _ := fun ty => Lib.run_next_any_at wr w.heap.size s pos ty hit hp
      have hwd := Lib.width_pos s pos
      have hr1 := Lib.rune_le s pos
      obtain ⟨R, hR⟩ : ∃ R, (Utf8.decode s pos).1 = R := ⟨_, rfl⟩
      obtain ⟨K, hK⟩ : ∃ K, (Utf8.decode s pos).2 = K := ⟨_, rfl⟩
      simp only [wroL, hp, if_true, hR, hK] at hleft
      rw [hR, hK] at hnx
      rw [hR] at hr1
      rw [hK] at hwd
      have hit2 := Lib.iterAt_heap wr w.heap.size s pos (pos + K) hit
      have hbw2 := Lib.below_iterAt hbw (k := w.heap.size) (Nat.le_refl _) s (pos + K)
      obtain ⟨W, hWd⟩ : ∃ W, wr.iterAt w.heap.size s (pos + K) = W := ⟨_, rfl⟩
      rw [hWd] at hnx hit2 hbw2
      have cS := Tryz.utf8_DecodeRuneInString (s.extract pos s.size) W (tabs_below hT hbw2 h1 h2)
      have hWs : w.heap.size < W.heap.size := (Array.getElem?_eq_some_iff.1 hit2).1
      obtain ⟨D, hD⟩ : ∃ D, (Lib.decodeGo (s.extract pos s.size)).2 = D := ⟨_, rfl⟩
      rw [hD] at hleft cS
      by_cases hR2 : R = 65533
      · subst hR2
        by_cases hD2 : D < 2
        · rw [if_pos ⟨rfl, hD2⟩] at hleft
          have hD3 : (D : Int) < 2 := by omega
          replace hleft := hleft.symm
          go_wp2_with (go_at_call 113; go_fit cS; rintro e W' ⟨rfl, hb⟩)
          go_ret
          exact ⟨by simp [hleft], hbw2.trans (hb.mono (by omega))⟩
        · rw [if_neg (by omega)] at hleft
          have hD3 : ¬ (D : Int) < 2 := by omega
          go_wp2_with (go_at_call 113; go_fit cS; rintro e W' ⟨rfl, hb⟩)
          go_roundg g
          case measure => omega
          case rel => exact ⟨pos + K, (hb.block w.heap.size hWs).trans hit2, hbw2.trans (hb.mono (by omega)), hleft, by omega⟩
      · rw [if_neg (by omega)] at hleft
        have hR3 : (R : Int) ≠ 65533 := by omega
        go_wp2_with (go_at_call 113; go_fit cS; rintro e W' ⟨rfl, hb⟩)
        go_roundg g
        case measure => omega
        case rel => exact ⟨pos + K, (hb.block w.heap.size hWs).trans hit2, hbw2.trans (hb.mono (by omega)), hleft, by omega⟩
    · have hnx : ∀ ty, (Instr.next (.pointer (some ⟨w.heap.size, 0, none⟩)) true ty).run Tryz.prog wr = _ := fun ty => Lib.run_next_end_at wr w.heap.size s pos ty hit hp
      rw [wroL_end s gk pos hp] at hleft
      go_wp2
      go_ret
      exact ⟨by rw [← hleft] <;> rfl, hbw⟩
end Go.Proofs.YtpipbjfcbbdicaaGreatDoor

namespace Go.Proofs.YtpipbjfcbbdicaaGreatDoor
open Go Go.Abs

def wroF (s : List UInt8) : Int := wroL ⟨⟨s⟩⟩ s.length 0
theorem wrong_does (m : Int) (s : List UInt8) (hs : s.length < 4294967296) : Does Tryz.prog (GL m) 85 [.str s] [] fun ae _ => ae = .ret (.int .i64 (wroF s)) :=
  Does.of_calls (v := .int .i64 (wroF s)) Tryz.func85 rfl rfl (fun C => by simp [RepF]) fun C cargs hg hr => by
    rw [rep_str1 hr]
    obtain ⟨_, h1, _⟩ := hg.glob (0, firstCells) (by simp [GL])
    obtain ⟨_, h2, _⟩ := hg.glob (1, acceptCells) (by simp [GL])
    exact wrong_walk ⟨⟨s⟩⟩ C.w hs (tabs hg) h1.1 h2.1

section
attribute [local irreducible] DrawW CallW RetW AC Does CmpW BD CloW
set_option maxRecDepth 100000
def noPat : AV := .agg (patCells ⟨.nils, .nils, .nils, .nils⟩ false Num.zero)
/-- What Parse answers. -/
def parF (s : List UInt8) : AV × Int × Int :=
  if 100 < s.length then (noPat, 2, 0) else if 0 ≤ wroF s then (noPat, 1, wroF s) else match patF s with
    | .ok v => (encV v, 0, 0)
    | .error b => (noPat, 1, b)
def parV (r : AV × Int × Int) : AV := .tuple [r.1, .int .i64 r.2.1, .int .i64 r.2.2]

theorem Parse_does {m : Int} (s : List UInt8) (hs : s.length < 100000) : Does Tryz.prog (GL m) 60 [.str s] [] fun ae _ => ae = .ret (parV (parF s)) := by
  refine Does.ofBD Tryz.func60 rfl rfl ?_
  refine BD.seq tab ?_
  refine gos ?_
  intro v0
  refine gos ?_
  intro v1
  refine gos ?_
  intro v2
  refine gos ?_
  refine BD.seq tab ?_
  refine gos ?_
  by_cases h1 : 100 < s.length
  · refine CmpW.t (by simp; omega) ?_
    refine gos ?_
    refine RetW.plain (by simp) ?_
    simp only [parF, if_pos h1]
    rfl
  · refine CmpW.f (by simp; omega) ?_
    refine gos ?_
    refine BD.seq tab ?_
    refine gos ?_
    refine CallW.pure (wrong_does m s (by omega)) rfl rfl ?_
    refine gos ?_
    by_cases h2 : 0 ≤ wroF s
    · refine CmpW.t (by simpa using h2) ?_
      refine gos ?_
      refine RetW.plain (by simp) ?_
      simp only [parF, if_neg h1, if_pos h2]
      rfl
    · refine CmpW.f (by simpa using h2) ?_
      refine gos ?_
      refine BD.defer tab (d := 16) Tryz.func86 rfl rfl rfl rfl rfl rfl rfl rfl (by simp) ?_
      refine gos ?_
      intro v3
      refine gos ?_
      refine CallW.ofN [3] (as' := [.ptr 0 v3 0 0]) (pattern_does s v3 hs) ?_ rfl rfl ?_
      · exact hands_closed (O := [rdr v3 s 0]) (by simp) rfl (fun k j hk => by
          match k, hk with
          | 0, hk => have : 3 = j := by simpa using hk
                     subst this; rfl
          | k + 1, hk => simp at hk) (by simp [rdr, closedLL, closedL, closed])
      intro ae O hA hl
      obtain ⟨o, rfl⟩ : ∃ o, O = [o] := by
        match O, hl with
        | [o], _ => exact ⟨o, rfl⟩
      have hp : parF s = match patF s with
        | .ok v => (encV v, 0, 0)
        | .error b => (noPat, 1, (b : Int)) := by simp only [parF, if_neg h1, if_neg h2]
      cases hE : patF s with
      | error b =>
        rw [hE] at hA hp
        subst hA
        simp only [putR, ren, renL]
        refine CloW.of tab Tryz.func86 rfl rfl rfl (fun _ => rfl) rfl rfl rfl ?_
        refine gos ?_
        intro v4
        refine gos ?_
        refine DrawW.plan (.take 0 (.take 1 (.fork (.cons 2 (.take 3 (.take 4 (.take 5 .done))) (.cons 3 (.fork (.cons 2 (.take 4 (.take 5 .done)) (.cons 4 (.take 2 (.take 5 .done)) .nil))) .nil))))) (by kernel_rfl) (by kernel_rfl) ?_
        refine gos ?_
        refine And.intro ?_ (And.intro ?_ trivial)
        · refine gos ?_
          refine RetW.plain (by simp) ?_
          rw [hp]
          rfl
        · refine gos ?_
          refine And.intro ?_ (And.intro ?_ trivial)
          all_goals
            refine gos ?_
            refine RetW.plain (by simp) ?_
            rw [hp]
            rfl
      | ok v =>
        rw [hE] at hA hp
        subst hA
        obtain ⟨p, q, p', q', two, N⟩ := v
        cases two
        all_goals
          simp only [putR]
          refine gos ?_
          refine CloW.of tab Tryz.func86 rfl rfl rfl (fun _ => rfl) rfl rfl rfl ?_
          refine gos ?_
          intro v4
          refine gos ?_
          refine RetW.plain (by simp) ?_
          rw [hp]
          rfl
end
end Go.Proofs.YtpipbjfcbbdicaaGreatDoor

namespace Go.Proofs.YtpipbjfcbbdicaaGreatDoor
open Go Go.Abs
attribute [local irreducible] DrawW CallW RetW AC Does CmpW
variable {G : Globs}

/-- A list of pieces, made or not. -/
inductive IsL : AV → List Piece → Prop where
  | nil : IsL .nils []
  | made (ps : List Piece) : IsL (encL ps) ps

theorem len0 (qs : List Piece) : ((qs.length : Int) == 0) = decide (qs = []) := by
  cases qs with
  | nil => rfl
  | cons a l => simp; omega
theorem empty_does {a b : AV} {ps qs : List Piece} (ha : IsL a ps) (hb : IsL b qs) : Does Tryz.prog G 98 [.agg [a, b]] [] fun ae _ => ae = .ret (.bool (decide (ps = [] ∧ qs = []))) := by
  refine Does.body tab Tryz.func98 rfl rfl ?_
  cases ha <;> cases hb
  all_goals
    refine gos ?_
    intro v1
    refine gos ?_
  · refine RetW.plain (by simp) ?_
    rfl
  · refine CmpW.s ?_
    refine gos ?_
    refine RetW.plain (by simp) ?_
    simp [len0]
  · refine CmpW.split (fun hc => ?_) (fun hc => ?_)
    · refine gos ?_
      refine RetW.plain (by simp) ?_
      simpa using hc
    · refine gos ?_
      refine RetW.plain (by simp) ?_
      simpa using hc
  · refine CmpW.split (fun hc => ?_) (fun hc => ?_)
    · refine gos ?_
      refine CmpW.s ?_
      refine gos ?_
      refine RetW.plain (by simp) ?_
      have hc' : ps = [] := by simpa using hc
      simp [hc', len0]
    · refine gos ?_
      refine RetW.plain (by simp) ?_
      have hc' : ¬ ps = [] := by simpa using hc
      simp [hc']

end Go.Proofs.YtpipbjfcbbdicaaGreatDoor

namespace Go.Proofs.YtpipbjfcbbdicaaGreatDoor
open Go Go.Abs
attribute [local irreducible] DrawW CallW RetW AC Does CmpW
set_option maxRecDepth 100000

def parE (s : List UInt8) : Except (Int × Int) PatV :=
  if 100 < s.length then .error (2, 0) else if 0 ≤ wroF s then .error (1, wroF s) else match patF s with
    | .ok v => .ok v
    | .error b => .error (1, (b : Int))
theorem parF_eq (s : List UInt8) : parF s = match parE s with
    | .ok v => (encV v, 0, 0)
    | .error x => (noPat, x.1, x.2) := by
  unfold parF parE
  split
  · rfl
  split
  · rfl
  cases patF s <;> rfl
theorem parE_bad {s : List UInt8} {c a : Int} (h : parE s = .error (c, a)) : c = 1 ∨ c = 2 := by
  unfold parE at h
  split at h
  · simp at h; exact .inr h.1.symm
  split at h
  · simp at h; exact .inl h.1.symm
  split at h
  · cases h
  · simp at h; exact .inl h.1.symm
def cpaE (s : List UInt8) : Except (Int × Int) PatV := match parE s with
  | .error x => .error x
  | .ok v => if 0 < v.N.hash ∨ 0 < v.N.mxf ∨ 0 < v.N.g ∨ 15 < v.N.mi then .error (3, 0) else .ok v
def noopF (v : PatV) : Bool := decide (v.N.mi = 1) && decide (v.pre = [] ∧ v.suf = []) && !v.two
def encC (v : PatV) : AV := .agg (.int .i64 v.N.mi :: .bool (noopF v) :: patCells (affV v) v.two v.N)
def noCpa : AV := .agg (.int .i64 0 :: .bool false :: patCells ⟨.nils, .nils, .nils, .nils⟩ false Num.zero)
def cpaV (r : Except (Int × Int) PatV) : AV := match r with
  | .ok v => .tuple [encC v, .int .i64 0, .int .i64 0]
  | .error x => .tuple [noCpa, .int .i64 x.1, .int .i64 x.2]

theorem empty_yes {G : Globs} {ps qs : List Piece} (h : ps = [] ∧ qs = []) : Does Tryz.prog G 98 [.agg [encL ps, encL qs]] [] fun ae _ => ae = .ret (.bool true) :=
  (empty_does (.made ps) (.made qs)).mono fun ae O e => by rw [e]; simp [h]
theorem empty_no {G : Globs} {ps qs : List Piece} (h : ¬ (ps = [] ∧ qs = [])) : Does Tryz.prog G 98 [.agg [encL ps, encL qs]] [] fun ae _ => ae = .ret (.bool false) :=
  (empty_does (.made ps) (.made qs)).mono fun ae O e => by rw [e]; simp [h]

def tail19 (p : Plan) : Plan := .take 9 (.take 10 (.take 11 (.take 12 (.take 13 (.take 14 p)))))
def end19 : Plan := .take 16 (.take 17 (.take 18 (.take 19 .done)))
def planC : Plan := .take 0 (.take 2 (.take 3 (.take 4 (.take 5 (.take 6 (.take 7 (.fork
  (.cons 1 (.fork (.cons 8 (tail19 (.take 15 end19)) (.cons 15 (.take 8 (tail19 end19)) .nil)))
  (.cons 8 (tail19 (.take 1 (.take 15 end19)))
  (.cons 15 (.fork (.cons 1 (.take 8 (tail19 end19)) (.cons 8 (tail19 (.take 1 end19)) .nil))) .nil)))))))))) 

set_option maxHeartbeats 4000000 in
theorem CParse_does {m : Int} (s : List UInt8) (hs : s.length < 100000) : Does Tryz.prog (GL m) 77 [.str s] [] fun ae _ => ae = .ret (cpaV (cpaE s)) := by
  have hP := Parse_does (m := m) s hs
  rw [parF_eq] at hP
  refine Does.body tab Tryz.func77 rfl rfl ?_
  refine gos ?_
  intro v0
  refine gos ?_
  cases hE : parE s with
  | error x =>
    obtain ⟨c, a⟩ := x
    rw [hE] at hP
    dsimp only at hP
    have hc : cpaE s = .error (c, a) := by simp [cpaE, hE]
    have hc0 := parE_bad hE
    refine CallW.pure hP rfl rfl ?_
    refine gos ?_
    intro v1
    refine gos ?_
    refine CmpW.t (by simp; omega) ?_
    refine gos ?_
    refine RetW.plain (by simp) ?_
    rw [hc]
    rfl
  | ok v =>
    rw [hE] at hP
    dsimp only at hP
    obtain ⟨p, q, p', q', two, N⟩ := v
    have hcl : closed (parV (encV ⟨p, q, p', q', two, N⟩, 0, 0)) = true := by cases two <;> rfl
    refine CallW.pure hP rfl hcl ?_
    refine gos ?_
    intro v1
    cases two
    all_goals
      refine gos ?_
      by_cases h1 : 0 < N.hash
      · have hc : cpaE s = .error (3, 0) := by simp only [cpaE, hE]; rw [if_pos (.inl h1)]
        refine CmpW.t (by simpa using h1) ?_
        refine gos ?_
        refine RetW.plain (by simp) ?_
        rw [hc]
        rfl
      refine CmpW.f (by simpa using h1) ?_
      refine gos ?_
      by_cases h2 : 0 < N.mxf
      · have hc : cpaE s = .error (3, 0) := by simp only [cpaE, hE]; rw [if_pos (.inr (.inl h2))]
        refine CmpW.t (by simpa using h2) ?_
        refine gos ?_
        refine RetW.plain (by simp) ?_
        rw [hc]
        rfl
      refine CmpW.f (by simpa using h2) ?_
      refine gos ?_
      by_cases h3 : 0 < N.g
      · have hc : cpaE s = .error (3, 0) := by simp only [cpaE, hE]; rw [if_pos (.inr (.inr (.inl h3)))]
        refine CmpW.t (by simpa using h3) ?_
        refine gos ?_
        refine RetW.plain (by simp) ?_
        rw [hc]
        rfl
      refine CmpW.f (by simpa using h3) ?_
      refine gos ?_
      by_cases h4 : 15 < N.mi
      · have hc : cpaE s = .error (3, 0) := by simp only [cpaE, hE]; rw [if_pos (.inr (.inr (.inr h4)))]
        refine CmpW.t (by simp; omega) ?_
        refine gos ?_
        refine RetW.plain (by simp) ?_
        rw [hc]
        rfl
      refine CmpW.f (by simp; omega) ?_
      refine gos ?_
      have hc : ∀ two, parE s = .ok ⟨p, q, p', q', two, N⟩ → cpaE s = .ok ⟨p, q, p', q', two, N⟩ := fun two h => by
        simp only [cpaE, h]
        rw [if_neg (by simp only [not_or]; exact ⟨h1, h2, h3, h4⟩)]
      have hc := hc _ hE
      refine DrawW.plan planC (by kernel_rfl) (by kernel_rfl) ?_
      refine gos ?_
      by_cases h5 : N.mi = 1
      · refine CmpW.t (by simp; omega) ?_
        refine gos ?_
        by_cases h6 : p = [] ∧ q = []
        · have hnoop : ∀ two, noopF ⟨p, q, p', q', two, N⟩ = !two := fun two => by cases two <;> simp [noopF, h5, h6]
          refine And.intro ?_ (And.intro ?_ (And.intro ?_ trivial))
          · refine gos ?_
            refine And.intro ?_ (And.intro ?_ trivial)
            all_goals
              refine gos ?_
              refine CallW.pure (empty_yes h6) rfl rfl ?_
              refine gos ?_
              refine RetW.plain (by simp) ?_
              rw [hc]
              simp only [cpaV, encC, hnoop]
              rfl
          · refine gos ?_
            refine CallW.pure (empty_yes h6) rfl rfl ?_
            refine gos ?_
            refine RetW.plain (by simp) ?_
            rw [hc]
            simp only [cpaV, encC, hnoop]
            rfl
          · refine gos ?_
            refine And.intro ?_ (And.intro ?_ trivial)
            all_goals
              refine gos ?_
              refine CallW.pure (empty_yes h6) rfl rfl ?_
              refine gos ?_
              refine RetW.plain (by simp) ?_
              rw [hc]
              simp only [cpaV, encC, hnoop]
              rfl
        · have hnoop : ∀ two, noopF ⟨p, q, p', q', two, N⟩ = false := fun two => by simp [noopF, h6]
          refine And.intro ?_ (And.intro ?_ (And.intro ?_ trivial))
          · refine gos ?_
            refine And.intro ?_ (And.intro ?_ trivial)
            all_goals
              refine gos ?_
              refine CallW.pure (empty_no h6) rfl rfl ?_
              refine gos ?_
              refine RetW.plain (by simp) ?_
              rw [hc]
              simp only [cpaV, encC, hnoop]
              rfl
          · refine gos ?_
            refine CallW.pure (empty_no h6) rfl rfl ?_
            refine gos ?_
            refine RetW.plain (by simp) ?_
            rw [hc]
            simp only [cpaV, encC, hnoop]
            rfl
          · refine gos ?_
            refine And.intro ?_ (And.intro ?_ trivial)
            all_goals
              refine gos ?_
              refine CallW.pure (empty_no h6) rfl rfl ?_
              refine gos ?_
              refine RetW.plain (by simp) ?_
              rw [hc]
              simp only [cpaV, encC, hnoop]
              rfl
      · have hnoop : ∀ two, noopF ⟨p, q, p', q', two, N⟩ = false := fun two => by simp [noopF, h5]
        refine CmpW.f (by simp; omega) ?_
        refine gos ?_
        refine And.intro ?_ (And.intro ?_ (And.intro ?_ trivial))
        · refine gos ?_
          refine And.intro ?_ (And.intro ?_ trivial)
          all_goals
            refine gos ?_
            refine RetW.plain (by simp) ?_
            rw [hc]
            simp only [cpaV, encC, hnoop]
            rfl
        ·
          refine gos ?_
          refine RetW.plain (by simp) ?_
          rw [hc]
          simp only [cpaV, encC, hnoop]
          rfl
        · refine gos ?_
          refine And.intro ?_ (And.intro ?_ trivial)
          all_goals
            refine gos ?_
            refine RetW.plain (by simp) ?_
            rw [hc]
            simp only [cpaV, encC, hnoop]
            rfl
end Go.Proofs.YtpipbjfcbbdicaaGreatDoor

namespace Go.Proofs.YtpipbjfcbbdicaaGreatDoor
open Go Go.Abs
attribute [local irreducible] DrawW CallW RetW AC Does CmpW
variable {G : Globs}

theorem more_len (out : List Piece) (t : List UInt8) : (more out t).length ≤ out.length + 1 := by
  unfold more
  split
  · split <;> simp
    try omega
  · simp
theorem affL_len (s : List UInt8) : ∀ (f a : Nat) (out : List Piece) (r : List Piece × Nat), affL s f a out = some r → r.1.length ≤ out.length + f
  | 0, _, _, _, h => by simp [affL] at h
  | f + 1, a, out, r, h => by
    unfold affL at h
    split at h
    · have := affL_len s f _ _ r h
      simp only [List.length_append, List.length_cons, List.length_nil] at this
      omega
    · split at h
      · cases h
      · split at h
        · simp at h; subst h; simp
        split at h
        · have := affL_len s f _ _ r h; omega
        · have h1 := affL_len s f _ _ r h
          have h2 := more_len out ‹_›
          omega
theorem affE_len {s : List UInt8} {a : Nat} {ps : List Piece} {b : Nat} (h : affE s a = .ok (ps, b)) : ps.length ≤ s.length + 1 := by
  unfold affE at h
  split at h
  · cases h
  · rename_i r hr
    simp at h; subst h
    have := affL_len s _ _ _ _ hr
    simp only [List.length_nil] at this
    omega
def PatV.small (v : PatV) : Prop := v.pre.length < 100000 ∧ v.suf.length < 100000 ∧ v.npre.length < 100000 ∧ v.nsuf.length < 100000
theorem patF_small {s : List UInt8} {v : PatV} (hs : s.length < 90000) (h : patF s = .ok v) : v.small := by
  unfold patF at h
  split at h
  · cases h
  rename_i p a1 h1
  have l1 := affE_len h1
  split at h
  · cases h
  split at h
  · cases h
  rename_i q a3 h3
  have l3 := affE_len h3
  split at h
  · split at h
    · cases h
    rename_i p' a5 h5
    have l5 := affE_len h5
    split at h
    · cases h
    split at h
    · cases h
    rename_i q' a7 h7
    have l7 := affE_len h7
    unfold endE at h
    split at h
    · cases h
    simp at h; subst h
    simp only [PatV.small]; omega
  · unfold endE at h
    split at h
    · cases h
    simp at h; subst h
    simp only [PatV.small, List.length_nil]; omega
theorem parE_small {s : List UInt8} {v : PatV} (h : parE s = .ok v) : v.small := by
  unfold parE at h
  split at h
  · cases h
  split at h
  · cases h
  split at h
  · simp at h; subst h
    rename_i h3
    exact patF_small (by omega) h3
  · cases h
theorem cpaE_small {s : List UInt8} {v : PatV} (h : cpaE s = .ok v) : v.small := by
  unfold cpaE at h
  split at h
  · cases h
  rename_i w hw
  split at h
  · cases h
  simp at h; subst h
  exact parE_small hw

/-- A pattern's sides. -/
def sidesF (v : PatV) (neg : Bool) : List Piece × List Piece := if neg then (if v.two then (v.npre, v.nsuf) else (⟨1, [], 0⟩ :: v.pre, v.suf)) else (v.pre, v.suf)
def encS (x : List Piece × List Piece) : AV := .agg [encL x.1, encL x.2]
theorem encP_three (ps : List Piece) : ∀ y ∈ ps.map encP, y.length = 3 := fun y hy => by
  obtain ⟨z, _, rfl⟩ := List.mem_map.1 hy; rfl
theorem encP_get {ps : List Piece} {i : Nat} {x : Piece} (h : ps[i]? = some x) : (ps.map encP)[i]? = some (encP x) := by simp [h]

theorem encP_ones (ps : List Piece) : ∀ y ∈ ps.map encP, ones y = true := fun y hy => by
  obtain ⟨z, _, rfl⟩ := List.mem_map.1 hy; rfl
theorem Sides_does (v : PatV) (hv : v.small) (neg : Bool) : Does Tryz.prog G 88 [encV v, .bool neg] [] fun ae _ => ae = .ret (encS (sidesF v neg)) := by
  obtain ⟨p, q, p', q', two, N⟩ := v
  obtain ⟨h1, h2, h3, h4⟩ := hv
  simp only at h1 h2 h3 h4
  refine Does.bodyA tab Tryz.func88 rfl rfl ?_
  cases two
  all_goals
    refine AC.step tab ?_
    refine gos ?_
    intro v1
    refine gos ?_
    intro v2
    refine gos ?_
    refine AC.wk (Wk.ptr (k := 2) (i := 0) rfl rfl rfl rfl rfl) ?_
    cases neg
  · refine AC.step tab ?_
    refine gos ?_
    refine RetW.plain (by simp) ?_
    rfl
  · refine AC.step tab ?_
    refine gos ?_
    refine AC.go tab ?_
    refine gos ?_
    refine DrawW.P (.take 0 (.take 2 (.take 3 (.take 6 (.take 7 (.fork (.cons 1 (.take 4 (.fork (.cons 5 (.take 8 (.take 9 (.take 10 .done))) (.cons 8 (.take 5 (.take 9 (.take 10 .done))) .nil)))) (.cons 4 (.fork (.cons 1 (.fork (.cons 5 (.take 8 (.take 9 (.take 10 .done))) (.cons 8 (.take 5 (.take 9 (.take 10 .done))) .nil))) (.cons 8 (.take 1 (.take 5 (.take 9 (.take 10 .done)))) .nil))) (.cons 8 (.fork (.cons 1 (.take 4 (.take 5 (.take 9 (.take 10 .done)))) (.cons 4 (.take 1 (.take 5 (.take 9 (.take 10 .done)))) .nil))) .nil))))))))) ?_
    (repeat' (first | exact trivial | exact encP_three _ | exact encP_ones _ | refine gof ?_ | refine fun (vv : Nat) => ?_ | refine And.intro ?_ ?_))
    all_goals
      refine RetW.wk (r' := .agg [.fsl ([[.int .i64 1, .str [], .int .i64 0]] ++ p.map encP), encL q]) (by simp) ?_ (Wk.agg (cs := [.sl 2 vv, encL q]) (cs' := [.fsl ([[.int .i64 1, .str [], .int .i64 0]] ++ p.map encP), encL q]) rfl
        (Wk.row (k := 0) (i := 2) (o := ⟨vv, 190, 3, [[.int .i64 1, .str [], .int .i64 0]] ++ p.map encP⟩) rfl rfl rfl (encs_closed (⟨1, [], 0⟩ :: p)))) ?_
      · rfl
      · rfl
  · refine AC.step tab ?_
    refine gos ?_
    refine RetW.plain (by simp) ?_
    rfl
  · refine AC.step tab ?_
    refine gos ?_
    refine RetW.plain (by simp) ?_
    rfl
end Go.Proofs.YtpipbjfcbbdicaaGreatDoor

namespace Go.Proofs.YtpipbjfcbbdicaaGreatDoor
open Go Go.Abs
attribute [local irreducible] DrawW CallW RetW AC Does CmpW
variable {G : Globs}

def cntF (k : Int) : List Piece → Nat
  | [] => 0
  | p :: ps => (if p.kind = k then 1 else 0) + cntF k ps
theorem cntF_le (k : Int) : ∀ ps : List Piece, cntF k ps ≤ ps.length
  | [] => Nat.le_refl _
  | p :: ps => by
    have := cntF_le k ps
    simp only [cntF, List.length_cons]
    split <;> omega
theorem cntF_append (k : Int) : ∀ ps qs : List Piece, cntF k (ps ++ qs) = cntF k ps + cntF k qs
  | [], qs => by simp [cntF]
  | p :: ps, qs => by simp [cntF, cntF_append k ps qs, Nat.add_assoc]
def cnt2 (k : Int) (x : List Piece × List Piece) : Nat := cntF k x.1 + cntF k x.2

theorem count_does (x : List Piece × List Piece) (h1 : x.1.length < 200000) (h2 : x.2.length < 200000) (k : Int) : Does Tryz.prog G 89 [encS x, .int .i64 k] [] fun ae _ => ae = .ret (.int .i64 (cnt2 k x)) := by
  obtain ⟨p, q⟩ := x
  simp only at h1 h2
  have c1 := cntF_le k p
  have c2 := cntF_le k q
  refine Does.bodyA tab Tryz.func89 rfl rfl ?_
  refine AC.step tab ?_
  refine gos ?_
  intro v1
  refine gos ?_
  refine AC.wk (Wk.ptr (k := 2) (i := 0) rfl rfl rfl rfl rfl) ?_
  refine AC.step tab ?_
  refine gos ?_
  refine AC.cutF tab (fun e h => e = [.any, .any, .any, .any, .any, .int .i64 (cnt2 k (p, q))] ++ List.replicate 29 .any ∧ h = []) ?_ ?_
  · (repeat (first | refine gof ?_ | refine fun (vv : Nat) => ?_))
    refine AC.rounds tab 3 ?_
    refine gos ?_
    rw [show (encL (p, q).1) = encL p from rfl, show (encL (p, q).2) = encL q from rfl]
    refine And.intro (And.intro (of_decide_eq_true rfl) (of_decide_eq_true rfl)) ?_
    refine gos ?_
    rw [show (p.map encP).length = p.length by simp]
    refine AC.loopC tab (fun f e h => ∃ (i n : Nat), f + i = p.length + 1 ∧ i ≤ p.length ∧ n + cntF k (p.drop i) = 0 + cntF k p ∧ n ≤ 0 + i ∧
        e = [.any, .int .i64 k, .any, .any, .any, .int .i64 n, .any, .any, .any, .any, .any, .any, .any, .any, .sl 1 vv, .int .i64 2, .int .i64 0, .any, .any, .any, encL p, .int .i64 p.length, .int .i64 i] ++ List.replicate 12 .any ∧ h = [none, some ⟨vv, 103, 1, [[encL p], [encL q]]⟩])
      (p.length + 1) ⟨_, fgts, 0, 0, by omega, by omega, rfl, by omega, rfl, rfl⟩ ?_
    rintro f e h ⟨i, n, hf, hi, hn, hni, rfl, rfl⟩
    refine gos ?_
    by_cases hlt : i < p.length
    · obtain ⟨x, hx⟩ : ∃ x, p[i]? = some x := ⟨_, List.getElem?_eq_getElem hlt⟩
      rw [drop_cons' hx] at hn
      simp only [cntF] at hn
      refine CmpW.T ?_
      refine gos ?_
      refine And.intro (encP_three p) (And.intro (by omega) ⟨encP x, encP_get hx, ?_⟩)
      (repeat (first | refine gof ?_ | refine fun (vv : Nat) => ?_))
      by_cases hk : x.kind = k
      · rw [if_pos hk] at hn
        refine CmpW.t (by simpa using hk) ?_
        (repeat (first | refine gof ?_ | refine fun (vv : Nat) => ?_))
        exact ⟨f - 1, _, 2, by omega, fgts, i + 1, n + 1, by omega, by omega, by omega, by omega, rfl, rfl⟩
      · rw [if_neg hk] at hn
        refine CmpW.f (by simpa using hk) ?_
        (repeat (first | refine gof ?_ | refine fun (vv : Nat) => ?_))
        exact ⟨f - 1, _, 2, by omega, fgts, i + 1, n, by omega, by omega, by omega, by omega, rfl, rfl⟩
    · refine CmpW.N ?_
      rw [List.drop_of_length_le (by omega)] at hn
      simp only [cntF, Nat.add_zero] at hn
      subst hn
      refine gos ?_
      refine And.intro (And.intro (of_decide_eq_true rfl) (of_decide_eq_true rfl)) ?_
      refine gos ?_
      rw [show (q.map encP).length = q.length by simp, Nat.zero_add]
      refine AC.loopC tab (fun f e h => ∃ (i n : Nat), f + i = q.length + 1 ∧ i ≤ q.length ∧ n + cntF k (q.drop i) = cntF k p + cntF k q ∧ n ≤ cntF k p + i ∧
          e = [.any, .int .i64 k, .any, .any, .any, .int .i64 n, .any, .any, .any, .any, .any, .any, .any, .any, .sl 1 vv, .int .i64 2, .int .i64 1, .any, .any, .any, encL q, .int .i64 q.length, .int .i64 i] ++ List.replicate 12 .any ∧ h = [none, some ⟨vv, 103, 1, [[encL p], [encL q]]⟩])
        (q.length + 1) ⟨_, fgts, 0, cntF k p, by omega, by omega, rfl, by omega, rfl, rfl⟩ ?_
      rintro f e h ⟨i, n, hf, hi, hn, hni, rfl, rfl⟩
      refine gos ?_
      by_cases hlt : i < q.length
      · obtain ⟨x, hx⟩ : ∃ x, q[i]? = some x := ⟨_, List.getElem?_eq_getElem hlt⟩
        rw [drop_cons' hx] at hn
        simp only [cntF] at hn
        refine CmpW.T ?_
        refine gos ?_
        refine And.intro (encP_three q) (And.intro (by omega) ⟨encP x, encP_get hx, ?_⟩)
        (repeat (first | refine gof ?_ | refine fun (vv : Nat) => ?_))
        by_cases hk : x.kind = k
        · rw [if_pos hk] at hn
          refine CmpW.t (by simpa using hk) ?_
          (repeat (first | refine gof ?_ | refine fun (vv : Nat) => ?_))
          exact ⟨f - 1, _, 2, by omega, fgts, i + 1, n + 1, by omega, by omega, by omega, by omega, rfl, rfl⟩
        · rw [if_neg hk] at hn
          refine CmpW.f (by simpa using hk) ?_
          (repeat (first | refine gof ?_ | refine fun (vv : Nat) => ?_))
          exact ⟨f - 1, _, 2, by omega, fgts, i + 1, n, by omega, by omega, by omega, by omega, rfl, rfl⟩
      · refine CmpW.N ?_
        rw [List.drop_of_length_le (by omega)] at hn
        simp only [cntF, Nat.add_zero] at hn
        subst hn
        refine gos ?_
        exact ⟨_, 0, fgts, rfl, rfl⟩
  rintro e h ⟨rfl, rfl⟩
  refine AC.go tab ?_
  refine gos ?_
  refine RetW.plain (by simp) ?_
  rfl
end Go.Proofs.YtpipbjfcbbdicaaGreatDoor
