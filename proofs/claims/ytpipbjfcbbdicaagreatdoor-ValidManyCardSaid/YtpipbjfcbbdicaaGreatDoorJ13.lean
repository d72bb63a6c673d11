/- Money, spacings; a table's checks. -/
import Derived.Test.YtpipbjfcbbdicaaGreatDoorJ12
import Derived.Test.YtpipbjfcbbdicaaGreatDoorAbsC
import Derived.Test.YtpipbjfcbbdicaaGreatDoorJ10
set_option linter.unusedVariables false
set_option linter.unusedSimpArgs false
set_option maxRecDepth 100000
set_option maxHeartbeats 4000000

namespace Go.Proofs.YtpipbjfcbbdicaaGreatDoor
open Go Go.Abs
attribute [local irreducible] DrawW CallW RetW AC Does CmpW

structure Rul where
  cat : Nat
  any : List (List Rel)
  smp : List UInt8
def encAll (xs : List Rel) : List AV := [.fsl (xs.map encRel)]
def encRul (x : Rul) : List AV := [.int .i64 x.cat, .fsl (x.any.map encAll), .str x.smp]
theorem encAlls_closed : ∀ rs : List (List Rel), closedLL (rs.map encAll) = true
  | [] => rfl
  | r :: rs => by simp [closedLL, encAll, closedL, closed]; exact encAlls_closed rs
def Fnd.get (F : Fnd) : Nat → Bool
  | 0 => F.c0
  | 1 => F.c1
  | 2 => F.c2
  | 3 => F.c3
  | 4 => F.c4
  | _ => F.c5
def Fnd.put (F : Fnd) : Nat → Fnd
  | 0 => { F with c0 := true }
  | 1 => { F with c1 := true }
  | 2 => { F with c2 := true }
  | 3 => { F with c3 := true }
  | 4 => { F with c4 := true }
  | _ => { F with c5 := true }
def orS : List UInt8 := [111, 114]
def orL (s : List UInt8) : Nat → Nat → Nat → List (List Rel) → Except (Int × Nat) (List (List Rel) × Nat × Nat)
  | 0, a, n, xs => .ok (xs, a, n)
  | f + 1, a, n, xs =>
    if wd s a = orS then match allF s (bl s a + 2) n with
      | .error r => .error r
      | .ok (x, b, n') => orL s f b n' (xs ++ [x])
    else .ok (xs, bl s a, n)
def anyF (s : List UInt8) (c a n : Nat) : Except (Int × Nat) (List (List Rel) × Nat × Nat) :=
  if c = 5 then .ok ([], a, n) else match allF s a n with
    | .error r => .error r
    | .ok (x, b, n') => orL s (s.length + 1 - b) b n' [x]
/-- A rule; where it ends; how many relations, which categories by then. -/
def rulF (s : List UInt8) (a n : Nat) (F : Fnd) : Except (Int × Nat) (Rul × Nat × Nat × Fnd) :=
  match catOf (wd s a) with
  | none => .error (1, bl s a)
  | some c =>
    if F.get c then .error (7, bl s a)
    else if pre s (bl s (bl s a + (wd s a).length)) [58] then match anyF s c (bl s (bl s a + (wd s a).length) + 1) n with
      | .error r => .error r
      | .ok (xs, b, n') => .ok (⟨c, xs, (smpF s b).1⟩, (smpF s b).2, n', F.put c)
    else .error (1, bl s (bl s a + (wd s a).length))
theorem orL_le {s : List UInt8} : ∀ (f a n : Nat) (xs out : List (List Rel)) (b n' : Nat), a ≤ s.length → n ≤ 200 → orL s f a n xs = .ok (out, b, n') → b ≤ s.length ∧ a ≤ b ∧ n' ≤ 200
  | 0, a, n, xs, out, b, n', ha, hn, h => by simp [orL] at h; omega
  | f + 1, a, n, xs, out, b, n', ha, hn, h => by
    have hb := bl_le ha
    unfold orL at h
    split at h
    · rename_i hw
      have hl : bl s a + (wd s a).length ≤ s.length := tw_le _ hb.2
      rw [hw] at hl
      simp only [orS, List.length_cons, List.length_nil] at hl
      split at h; · cases h
      rename_i x c n2 hv
      have h1 := allF_le (by omega) hv
      have := orL_le f c _ _ out b n' h1.2.1 h1.2.2 h
      omega
    · simp only [Except.ok.injEq, Prod.mk.injEq] at h
      omega
theorem anyF_le {s : List UInt8} {c a n : Nat} (ha : a ≤ s.length) (hn : n ≤ 200) {xs : List (List Rel)} {b n' : Nat} (h : anyF s c a n = .ok (xs, b, n')) : a ≤ b ∧ b ≤ s.length ∧ n' ≤ 200 := by
  unfold anyF at h
  split at h
  · simp only [Except.ok.injEq, Prod.mk.injEq] at h; omega
  · split at h; · cases h
    rename_i x c n2 hv
    have h1 := allF_le ha hv
    have := orL_le _ _ _ _ _ _ _ h1.2.1 h1.2.2 h
    omega
theorem rulF_le {s : List UInt8} {a n : Nat} {F : Fnd} (ha : a ≤ s.length) (hn : n ≤ 200) {x : Rul} {b n' : Nat} {F' : Fnd} (h : rulF s a n F = .ok (x, b, n', F')) : a < b ∧ b ≤ s.length ∧ n' ≤ 200 := by
  have hb := bl_le ha
  have hl : bl s a + (wd s a).length ≤ s.length := tw_le _ hb.2
  have hb2 := bl_le hl
  unfold rulF at h
  split at h; · cases h
  split at h; · cases h
  split at h
  · rename_i hp
    have hle := pre_le hp (by simp)
    simp only [List.length_cons, List.length_nil] at hle
    split at h; · cases h
    rename_i xs c n2 hv
    have h1 := anyF_le (by omega) hn hv
    have h2 := smpF_le h1.2.1
    simp only [Except.ok.injEq, Prod.mk.injEq] at h
    omega
  · cases h

theorem rule_does (m : Int) (s : List UInt8) (a n : Nat) (F : Fnd) (ha : a ≤ s.length) (hs : s.length < 100000) (hn : n ≤ 200) (ver : Nat) :
    Does Tryz.prog (GL m) 91 [.ptr 0 ver 0 0] [some (rro ver s a n F)] fun ae O => match rulF s a n F with
      | .error r => ae = .panic (rfault r)
      | .ok (x, b, n', F') => ae = .ret (.agg (encRul x)) ∧ O = [some (rro ver s b n' F')] := by
  refine Does.bodyA tab Tryz.func91 rfl rfl ?_
  refine AC.step tab ?_
  refine gos ?_
  intro v1
  refine gos ?_
  refine AC.step tab ?_
  refine gos ?_
  refine CallW.meth 0 (word_does s a n F ha hs ver) rfl rfl rfl rfl rfl rfl ?_
  have hb := bl_le ha
  have hl : bl s a + (wd s a).length ≤ s.length := tw_le _ hb.2
  have hb2 := bl_le hl
  refine gos ?_
  refine AC.step tab ?_
  refine gos ?_
  refine AC.step tab ?_
  refine gos ?_
  refine CallW.pure (CatOf_does (GL m) (wd s a)) rfl (by cases catOf (wd s a) <;> rfl) ?_
  cases hc : catOf (wd s a) with
  | none =>
    refine gos ?_
    refine AC.step tab ?_
    refine gos ?_
    refine CallW.of0 (rfail_does _ _) rfl ?_
    rintro ae ⟨rfl, _⟩
    refine ⟨rfl, ?_⟩
    refine gos ?_
    exact ⟨by simp, by simp [rulF, hc]⟩
  | some c =>
  simp only
  refine gos ?_
  obtain ⟨hc6, hwc⟩ := catOf_lt hc
  -- is it there already?
  refine AC.cutF tab (fun e h => F.get c = false ∧ e = [.ptr 0 ver 0 0, .any, .ptr 1 v1 0 0, .str (wd s a), .any, .int .i64 c] ++ List.replicate 67 .any ∧ h = [some (rro ver s (bl s a) n F), some ⟨v1, 156, 3, [[.int .i64 0, .nils, .str []]]⟩]) ?_ ?_
  · have h6 : c = 0 ∨ c = 1 ∨ c = 2 ∨ c = 3 ∨ c = 4 ∨ c = 5 := by omega
    rcases h6 with rfl | rfl | rfl | rfl | rfl | rfl
    all_goals
      (repeat (first | refine gof ?_ | refine fun (vv : Nat) => ?_))
      refine And.intro (fun hF => ?_) (fun hF => ?_)
      · refine gos ?_
        refine CallW.of0 (rfail_does _ _) rfl ?_
        rintro ae ⟨rfl, _⟩
        refine ⟨rfl, ?_⟩
        refine gos ?_
        exact ⟨by simp, by simp [rulF, hc, Fnd.get, hF]⟩
      · refine gos ?_
        exact ⟨_, 2, fgts, hF, rfl, rfl⟩
  rintro e h ⟨hF, rfl, rfl⟩
  refine AC.cutF tab (fun e h => e = [.ptr 0 ver 0 0, .any, .ptr 1 v1 0 0, .str (wd s a), .any, .int .i64 c] ++ List.replicate 67 .any ∧ h = [some (rro ver s (bl s a) n (F.put c)), some ⟨v1, 156, 3, [[.int .i64 0, .nils, .str []]]⟩]) ?_ ?_
  · have h6 : c = 0 ∨ c = 1 ∨ c = 2 ∨ c = 3 ∨ c = 4 ∨ c = 5 := by omega
    rcases h6 with rfl | rfl | rfl | rfl | rfl | rfl
    all_goals
      (repeat (first | refine gof ?_ | refine fun (vv : Nat) => ?_))
      exact ⟨_, 2, fgts, rfl, rfl⟩
  rintro e h ⟨rfl, rfl⟩
  refine AC.step tab ?_
  refine gos ?_
  refine AC.step tab ?_
  refine gos ?_
  have w1 := want_does (G := GL m) s [58] (bl s a + (wd s a).length) n (F.put c) hl hs ver
  cases hp : pre s (bl s (bl s a + (wd s a).length)) [58] with
  | false =>
    rw [hp] at w1
    simp only at w1
    refine CallW.pan1 0 w1 rfl rfl rfl rfl rfl (fun s' hl => ?_)
    refine gos ?_
    exact ⟨by rw [hl]; simp, by simp [rulF, hc, hF, hp]⟩
  | true =>
  have hle := pre_le hp (by simp)
  simp only [List.length_cons, List.length_nil] at hle
  rw [hp] at w1
  simp only [List.length_cons, List.length_nil, Nat.zero_add] at w1
  refine CallW.meth 0 w1 rfl rfl rfl rfl rfl rfl ?_
  obtain ⟨d0, hd0⟩ : ∃ d0, d0 = bl s (bl s a + (wd s a).length) + 1 := ⟨_, rfl⟩
  have hd0l : d0 ≤ s.length := by omega
  have hspec : ∀ X, anyF s c d0 n = X → rulF s a n F = match X with
      | .error r => .error r
      | .ok (xs, b, n') => .ok (⟨c, xs, (smpF s b).1⟩, (smpF s b).2, n', F.put c) := by
    rintro X rfl
    simp only [rulF, hc, hF, hp, Bool.false_eq_true, if_false, if_true, hd0]
  rw [← hd0]
  clear w1
  refine gos ?_
  refine AC.step tab ?_
  refine gos ?_
  intro v2
  refine gos ?_
  -- its relations
  refine AC.cutF tab (fun e h => ∃ xs d n', anyF s c d0 n = .ok (xs, d, n') ∧ d ≤ s.length ∧ n' ≤ 200 ∧ e = [.ptr 0 ver 0 0, .any, .ptr 1 v1 0 0, .any, .any, .any, .any, .ptr 2 v2 0 0] ++ List.replicate 65 .any ∧
    ((xs = [] ∧ h = [some (rro ver s d n' (F.put c)), some ⟨v1, 156, 3, [[.int .i64 0, .nils, .str []]]⟩, some ⟨v2, 156, 3, [[.int .i64 c, .nils, .str []]]⟩]) ∨
      ∃ vw o3, h = [some (rro ver s d n' (F.put c)), some ⟨v1, 156, 3, [[.int .i64 0, .nils, .str []]]⟩, some ⟨v2, 156, 3, [[.int .i64 c, .sl 4 vw, .str []]]⟩, o3, some ⟨vw, 195, 1, xs.map encAll⟩])) ?_ ?_
  · refine gos ?_
    by_cases h5 : c = 5
    · refine CmpW.N ?_
      refine gos ?_
      exact ⟨_, 3, fgts, [], d0, n, by simp [anyF, h5], hd0l, hn, rfl, .inl ⟨rfl, rfl⟩⟩
    · refine CmpW.T ?_
      refine gos ?_
      have r1 := all_does m s d0 n (F.put c) hd0l hs hn ver
      cases hA : allF s d0 n with
      | error r =>
        rw [hA] at r1
        simp only at r1
        have hE := hspec (.error r) (by simp [anyF, h5, hA])
        refine DrawW.P (.take 0 (.take 2 (.fork (.cons 1 (.take 3 (.take 4 (.take 5 (.take 6 (.take 7 .done))))) (.cons 3 (.fork (.cons 1 (.take 4 (.take 5 (.take 6 (.take 7 .done)))) (.cons 4 (.take 1 (.take 5 (.take 6 (.take 7 .done)))) .nil))) .nil))))) ?_
        (repeat' (first | exact trivial | refine gon ?_ | refine CallW.pan1 0 r1 rfl rfl rfl rfl rfl (fun s' hl => ?_) | refine And.intro ?_ ?_))
        all_goals first | (rw [hl]; simp; done) | (simp only [hE]; done)
      | ok q =>
      obtain ⟨x, b, n1⟩ := q
      rw [hA] at r1
      simp only at r1
      have h1 := allF_le hd0l hA
      refine DrawW.P (.take 0 (.take 2 (.fork (.cons 1 (.take 3 (.take 4 (.take 5 (.take 6 (.take 7 .done))))) (.cons 3 (.fork (.cons 1 (.take 4 (.take 5 (.take 6 (.take 7 .done)))) (.cons 4 (.take 1 (.take 5 (.take 6 (.take 7 .done)))) .nil))) .nil))))) ?_
      (repeat' (first | exact trivial | refine gon ?_ | refine CallW.meth 0 r1 rfl rfl rfl rfl rfl rfl ?_ | refine fun (vv : Nat) => ?_ | (refine And.intro (And.intro (fun y hy => by rcases List.mem_singleton.1 hy with rfl; rfl) (fun y hy => by rcases List.mem_singleton.1 hy with rfl; rfl)) ?_; refine And.intro (And.intro rfl trivial) ?_) | refine gobnd ?_ | refine And.intro ?_ ?_))
      all_goals
        refine AC.loopC tab (fun f e h => ∃ (xs : List (List Rel)) (b' n' vw : Nat) (o3 : Option AObj), s.length < f + b' ∧ b' ≤ s.length ∧ n' ≤ 200 ∧ xs.length ≤ b' + 1 ∧ orL s (s.length + 1 - b) b n1 [x] = orL s f b' n' xs ∧
          e = [.ptr 0 ver 0 0, .any, .ptr 1 v1 0 0, .any, .any, .any, .any, .ptr 2 v2 0 0] ++ List.replicate 65 .any ∧
          h = [some (rro ver s b' n' (F.put c)), some ⟨v1, 156, 3, [[.int .i64 0, .nils, .str []]]⟩, some ⟨v2, 156, 3, [[.int .i64 c, .sl 4 vw, .str []]]⟩, o3, some ⟨vw, 195, 1, xs.map encAll⟩])
          (s.length + 1 - b) ⟨_, fgts, [x], b, n1, vv, _, by omega, h1.2.1, h1.2.2, by simp, rfl, rfl, rfl⟩ ?_
        rintro f e h ⟨xs, b', n', vw, o3, hf, hb', hn', hxl, hal, rfl, rfl⟩
        obtain ⟨f, rfl⟩ : ∃ q, f = q + 1 := ⟨f - 1, by omega⟩
        have hq1 := bl_le hb'
        have hl2 : bl s b' + (wd s b').length ≤ s.length := tw_le _ hq1.2
        refine gos ?_
        by_cases hw : wd s b' = orS
        · have hw' := hw
          unfold orS at hw'
          rw [hw'] at hl2
          simp only [List.length_cons, List.length_nil] at hl2
          refine CallW.meth 0 (next_t (bl s b' + 2) hw' rfl n' (F.put c) hb' hs ver) rfl rfl rfl rfl rfl rfl ?_
          refine gos ?_
          have r2 := all_does m s (bl s b' + 2) n' (F.put c) (by omega) hs hn' ver
          simp only [orL, hw, if_true] at hal
          cases hA2 : allF s (bl s b' + 2) n' with
          | error r =>
            rw [hA2] at r2 hal
            simp only at r2 hal
            have hE := hspec (.error r) (by simp [anyF, h5, hA, hal])
            refine DrawW.P (.take 0 (.take 2 (.fork (.cons 1 (.take 3 (.take 4 (.take 5 (.take 6 (.take 7 .done))))) (.cons 3 (.fork (.cons 1 (.take 4 (.take 5 (.take 6 (.take 7 .done)))) (.cons 4 (.take 1 (.take 5 (.take 6 (.take 7 .done)))) .nil))) .nil))))) ?_
            (repeat' (first | exact trivial | refine gon ?_ | refine CallW.pan1 0 r2 rfl rfl rfl rfl rfl (fun s' hl => ?_) | refine And.intro ?_ ?_))
            all_goals first | (rw [hl]; simp; done) | (simp only [hE]; done)
          | ok q =>
            obtain ⟨y, d2, n2⟩ := q
            rw [hA2] at r2 hal
            simp only at r2 hal
            have h2 := allF_le (by omega) hA2
            refine DrawW.P (.take 0 (.take 2 (.fork (.cons 1 (.take 3 (.take 4 (.take 5 (.take 6 (.take 7 .done))))) (.cons 3 (.fork (.cons 1 (.take 4 (.take 5 (.take 6 (.take 7 .done)))) (.cons 4 (.take 1 (.take 5 (.take 6 (.take 7 .done)))) .nil))) .nil))))) ?_
            (repeat' (first | exact trivial | refine gon ?_ | refine CallW.meth 0 r2 rfl rfl rfl rfl rfl rfl ?_ | refine fun (vv : Nat) => ?_ | (refine And.intro (And.intro (fun y hy => by rcases List.mem_singleton.1 hy with rfl; rfl) (fun y hy => by rcases List.mem_singleton.1 hy with rfl; rfl)) ?_; refine And.intro (And.intro rfl trivial) ?_) | refine gobnd ?_ | refine And.intro ?_ ?_))
            all_goals
              refine ⟨f, _, 5, by omega, fgts, xs ++ [y], d2, n2, vv, o3, by omega, h2.2.1, h2.2.2, by simp; omega, hal, rfl, ?_⟩
              rw [List.map_append]; rfl
        · simp only [orL, if_neg hw] at hal
          refine CallW.meth 0 (next_f hw n' (F.put c) hb' hs ver) rfl rfl rfl rfl rfl rfl ?_
          refine gos ?_
          exact ⟨_, 5, fgts, xs, bl s b', n', by simp [anyF, h5, hA, hal], hq1.2, hn', rfl, .inr ⟨vw, o3, rfl⟩⟩
  rintro e h ⟨xs, d, n', hA, hd, hn', rfl, ⟨rfl, rfl⟩ | ⟨vw, o3, rfl⟩⟩
  · have hE := hspec _ hA
    refine AC.go tab ?_
    refine gos ?_
    refine CallW.meth 0 (sample_does m s d n' (F.put c) hd hs ver) rfl rfl rfl rfl rfl rfl ?_
    refine gos ?_
    refine RetW.wk (r' := .agg (encRul ⟨c, [], (smpF s d).1⟩)) (s' := [some (rro ver s (smpF s d).2 n' (F.put c)), some ⟨v1, 156, 3, [[.int .i64 c, .nils, .str (smpF s d).1]]⟩, some ⟨v2, 156, 3, [[.int .i64 c, .nils, .str (smpF s d).1]]⟩]) (by simp) rfl ?_ ?_
    · exact Wk.agg (cs := [.int .i64 c, .nils, .str (smpF s d).1]) (cs' := encRul ⟨c, [], (smpF s d).1⟩) rfl (Wk.nil (k := 1) rfl)
    · simp only [hE]
      (first | exact ⟨rfl, rfl⟩ | exact ⟨trivial, rfl⟩ | exact ⟨rfl, trivial⟩ | rfl | trivial | done)
  · have hE := hspec _ hA
    refine AC.go tab ?_
    refine gos ?_
    refine CallW.meth 0 (sample_does m s d n' (F.put c) hd hs ver) rfl rfl rfl rfl rfl rfl ?_
    refine gos ?_
    refine RetW.wk (r' := .agg (encRul ⟨c, xs, (smpF s d).1⟩)) (s' := [some (rro ver s (smpF s d).2 n' (F.put c)), some ⟨v1, 156, 3, [[.int .i64 c, .sl 4 vw, .str (smpF s d).1]]⟩, some ⟨v2, 156, 3, [[.int .i64 c, .sl 4 vw, .str (smpF s d).1]]⟩, o3, none]) (by simp) rfl ?_ ?_
    · exact Wk.agg (cs := [.int .i64 c, .sl 4 vw, .str (smpF s d).1]) (cs' := encRul ⟨c, xs, (smpF s d).1⟩) rfl (Wk.row (k := 1) (i := 4) (o := ⟨vw, 195, 1, xs.map encAll⟩) rfl rfl rfl (encAlls_closed xs))
    · simp only [hE]
      (first | exact ⟨rfl, rfl⟩ | exact ⟨trivial, rfl⟩ | exact ⟨rfl, trivial⟩ | rfl | trivial | done)
end Go.Proofs.YtpipbjfcbbdicaaGreatDoor

namespace Go.Proofs.YtpipbjfcbbdicaaGreatDoor
open Go Go.Abs
section
attribute [local irreducible] DrawW CallW RetW AC Does CmpW

theorem encRuls_closed : ∀ rs : List Rul, closedLL (rs.map encRul) = true
  | [] => rfl
  | r :: rs => by simp [closedLL, encRul, closedL, closed]; exact encRuls_closed rs
def rusL (s : List UInt8) : Nat → Nat → Nat → Fnd → List Rul → Except (Int × Nat) (List Rul × Nat × Nat × Fnd)
  | 0, a, n, F, xs => .ok (xs, a, n, F)
  | f + 1, a, n, F, xs =>
    if pk s a = 0 then .ok (xs, bl s a, n, F)
    else match rulF s (bl s a) n F with
      | .error r => .error r
      | .ok (x, b, n', F') => if pre s (bl s b) [59] then rusL s f (bl s b + 1) n' F' (xs ++ [x]) else .ok (xs ++ [x], bl s b, n', F')
def rus0 (s : List UInt8) : Except (Int × Nat) (List Rul × Nat × Nat × Fnd) := rusL s (s.length + 1) 0 0 ⟨false, false, false, false, false, false⟩ []
def rusF (s : List UInt8) : Except (Int × Nat) (List Rul) := match rus0 s with
  | .error r => .error r
  | .ok (xs, b, _, _) => if pk s b ≠ 0 ∨ bl s b < s.length then .error (1, bl s b) else .ok xs

theorem rules_does (m : Int) (s : List UInt8) (hs : s.length < 100000) (ver : Nat) :
    Does Tryz.prog (GL m) 63 [.ptr 0 ver 0 0] [some (rro ver s 0 0 ⟨false, false, false, false, false, false⟩)] fun ae O => match rusF s with
      | .error r => ae = .panic (rfault r)
      | .ok xs => ae = .ret (.fsl (xs.map encRul)) ∧ ∃ o, O = [some o] := by
  refine Does.bodyA tab Tryz.func63 rfl rfl ?_
  refine AC.step tab ?_
  refine gos ?_
  refine AC.step tab ?_
  refine gos ?_
  refine AC.own 3 156 3 rfl (by omega) fun v1 => ?_
  refine AC.cutF tab (fun e h => ∃ (xs : List Rul) (b n vw : Nat) (F : Fnd), rus0 s = .ok (xs, b, n, F) ∧ b ≤ s.length ∧ e = [.ptr 0 ver 0 0, .any, .any, .sl 1 vw] ++ List.replicate 32 .any ∧
    h = [some (rro ver s b n F), some ⟨vw, 156, 3, xs.map encRul⟩]) ?_ ?_
  · refine AC.loopC tab (fun f e h => ∃ (xs : List Rul) (b n vw : Nat) (F : Fnd), s.length < f + b ∧ b ≤ s.length ∧ n ≤ 200 ∧ xs.length ≤ b ∧ rus0 s = rusL s f b n F xs ∧
      e = [.ptr 0 ver 0 0, .any, .any, .sl 1 vw] ++ List.replicate 32 .any ∧ h = [some (rro ver s b n F), some ⟨vw, 156, 3, xs.map encRul⟩]) (s.length + 1) ⟨_, fgts, [], 0, 0, v1, _, by omega, by omega, by omega, by simp, rfl, rfl, rfl⟩ ?_
    rintro f e h ⟨xs, b, n, vw, F, hf, hb, hn, hxl, hal, rfl, rfl⟩
    obtain ⟨f, rfl⟩ : ∃ q, f = q + 1 := ⟨f - 1, by omega⟩
    have hq1 := bl_le hb
    refine gos ?_
    refine CallW.meth 0 (peek_does s b n F hb hs ver) rfl rfl rfl rfl rfl rfl ?_
    refine gos ?_
    by_cases hp : pk s b = 0
    · simp only [rusL, hp, if_true] at hal
      refine CmpW.f (by simpa using hp) ?_
      refine gos ?_
      exact ⟨_, 2, fgts, xs, bl s b, n, vw, F, hal, hq1.2, rfl, rfl⟩
    · refine CmpW.t (by simp; omega) ?_
      simp only [rusL, if_neg hp] at hal
      refine gos ?_
      have r1 := rule_does m s (bl s b) n F hq1.2 hs hn ver
      cases hR : rulF s (bl s b) n F with
      | error r =>
        rw [hR] at r1 hal
        simp only at r1 hal
        refine CallW.pan1 0 r1 rfl rfl rfl rfl rfl (fun s' hl => ?_)
        refine gos ?_
        exact ⟨by rw [hl]; simp, by simp only [rusF, hal]⟩
      | ok q =>
        obtain ⟨x, c, n', F'⟩ := q
        rw [hR] at r1 hal
        simp only at r1 hal
        have h1 := rulF_le hq1.2 hn hR
        have q2 := bl_le h1.2.1
        refine CallW.meth 0 r1 rfl rfl rfl rfl rfl rfl ?_
        (repeat (first | refine gof ?_ | refine fun (vv : Nat) => ?_))
        cases hz : pre s (bl s c) [59] with
        | true =>
          have hle3 := pre_le hz (by simp)
          simp only [List.length_cons, List.length_nil] at hle3
          simp only [hz, if_true] at hal
          refine CallW.meth 0 (take_t (bl s c + 1) hz rfl n' F' h1.2.1 hs ver) rfl rfl rfl rfl rfl rfl ?_
          (repeat (first | refine gof ?_ | refine fun (vv : Nat) => ?_))
          refine ⟨f, _, 2, by omega, fgts, xs ++ [x], bl s c + 1, n', vv, F', by omega, by omega, h1.2.2, by simp; omega, hal, rfl, ?_⟩
          rw [List.map_append]; rfl
        | false =>
          simp only [hz, Bool.false_eq_true, if_false] at hal
          refine CallW.meth 0 (take_f hz n' F' h1.2.1 hs ver) rfl rfl rfl rfl rfl rfl ?_
          (repeat (first | refine gof ?_ | refine fun (vv : Nat) => ?_))
          refine ⟨_, 2, fgts, xs ++ [x], bl s c, n', vv, F', hal, q2.2, rfl, ?_⟩
          rw [List.map_append]; rfl
  rintro e h ⟨xs, b, n, vw, F, hal, hb, rfl, rfl⟩
  have hq1 := bl_le hb
  refine AC.step tab ?_
  refine gos ?_
  refine DrawW.L ?_
  refine gos ?_
  refine CallW.meth 0 (peek_does s b n F hb hs ver) rfl rfl rfl rfl rfl rfl ?_
  refine gos ?_
  by_cases hp : pk s b = 0
  · refine CmpW.f (by simpa using hp) ?_
    refine gos ?_
    by_cases hlt : bl s b < s.length
    · refine CmpW.T ?_
      refine gos ?_
      refine CallW.of0 (rfail_does _ _) rfl ?_
      rintro ae ⟨rfl, _⟩
      refine ⟨rfl, ?_⟩
      refine gos ?_
      exact ⟨by simp, by simp only [rusF, hal]; rw [if_pos (.inr hlt)]⟩
    · refine CmpW.N ?_
      refine gos ?_
      refine AC.go tab ?_
      refine gos ?_
      refine RetW.wk (by simp) ?_ (Wk.row (k := 0) (i := 1) rfl rfl rfl (encRuls_closed xs)) ?_
      · rfl
      · simp only [rusF, hal]
        rw [if_neg (by simp [hp]; omega)]
        exact ⟨rfl, _, rfl⟩
  · refine CmpW.t (by simp; omega) ?_
    refine gos ?_
    refine CallW.of0 (rfail_does _ _) rfl ?_
    rintro ae ⟨rfl, _⟩
    refine ⟨rfl, ?_⟩
    refine gos ?_
    exact ⟨by simp, by simp only [rusF, hal]; rw [if_pos (.inl hp)]⟩
end

section
attribute [local irreducible] DrawW CallW RetW AC Does CmpW BD CloW
/-- What Parse answers. -/
def rulP (s : List UInt8) : List Rul × Int × Nat :=
  if 4000 < s.length then ([], 4, 0) else match rusF s with
    | .ok xs => (xs, 0, 0)
    | .error r => ([], r.1, r.2)
def rulV (r : List Rul × Int × Nat) : AV := .tuple [.fsl (r.1.map encRul), .int .i64 r.2.1, .int .i64 r.2.2]

theorem RParse_does {m : Int} (s : List UInt8) (hs : s.length < 100000) : Does Tryz.prog (GL m) 27 [.str s] [] fun ae _ => ae = .ret (rulV (rulP s)) := by
  refine Does.ofBD Tryz.func27 rfl rfl ?_
  refine BD.seq tab ?_
  (repeat (first | refine gof ?_ | refine fun (vv : Nat) => ?_))
  refine BD.seq tab ?_
  refine gos ?_
  by_cases h1 : 4000 < s.length
  · refine CmpW.T ?_
    refine gos ?_
    refine RetW.wk (r' := rulV ([], 4, 0)) (by simp) ?_ (Wk.tuple (Wk.nil (k := 0) rfl)) ?_
    · rfl
    · simp only [rulP, if_pos h1]
  · refine CmpW.N ?_
    refine gos ?_
    refine BD.defer tab (d := 8) Tryz.func62 rfl rfl rfl rfl rfl rfl rfl rfl (by simp) ?_
    (repeat (first | refine gof ?_ | refine fun (vv : Nat) => ?_))
    refine CallW.ofN [3] (as' := [.ptr 0 vv 0 0]) (rules_does m s hs vv) ?_ rfl rfl ?_
    · exact hands_closed (O := [rro vv s 0 0 ⟨false, false, false, false, false, false⟩]) (by simp) rfl (fun k j hk => by
        match k, hk with
        | 0, hk => have : 3 = j := by simpa using hk
                   subst this; rfl
        | k + 1, hk => simp at hk) (by simp [rro, closedLL, closedL, closed])
    intro ae O hA hl
    obtain ⟨o, rfl⟩ : ∃ o, O = [o] := by
      match O, hl with
      | [o], _ => exact ⟨o, rfl⟩
    have hp : rulP s = match rusF s with
      | .ok xs => (xs, 0, 0)
      | .error r => ([], r.1, r.2) := by simp only [rulP, if_neg h1]
    cases hE : rusF s with
    | error r =>
      rw [hE] at hA hp
      subst hA
      simp only [putR, ren, renL]
      refine CloW.of tab Tryz.func62 rfl rfl rfl (fun _ => rfl) rfl rfl rfl ?_
      (repeat (first | refine gof ?_ | refine fun (vv : Nat) => ?_))
      refine DrawW.P (.take 0 (.take 2 (.fork (.cons 1 (.fork (.cons 3 (.take 4 (.take 5 (.take 6 .done))) (.cons 4 (.fork (.cons 3 (.take 5 (.take 6 .done)) (.cons 5 (.take 3 (.take 6 .done)) .nil))) .nil))) (.cons 3 (.fork (.cons 1 (.take 4 (.take 5 (.take 6 .done))) (.cons 4 (.take 1 (.take 5 (.take 6 .done))) .nil))) (.cons 4 (.take 1 (.fork (.cons 3 (.take 5 (.take 6 .done)) (.cons 5 (.take 3 (.take 6 .done)) .nil)))) .nil)))))) ?_
      (repeat' (first | exact trivial | refine gon ?_ | refine And.intro ?_ ?_))
      all_goals
        refine RetW.wk (r' := rulV ([], r.1, r.2)) (by simp) ?_ (Wk.tuple (Wk.nil (k := 0) rfl)) ?_
        · rfl
        · rw [hp]
    | ok xs =>
      rw [hE] at hA hp
      obtain ⟨rfl, _⟩ := hA
      simp only [putR]
      (repeat (first | refine gof ?_ | refine fun (vv : Nat) => ?_))
      refine CloW.of tab Tryz.func62 rfl rfl rfl (fun _ => rfl) rfl rfl rfl ?_
      (repeat (first | refine gof ?_ | refine fun (vv : Nat) => ?_))
      refine RetW.plain (by simp) ?_
      rw [hp]
      rfl
end
end Go.Proofs.YtpipbjfcbbdicaaGreatDoor

namespace Go.Proofs.YtpipbjfcbbdicaaGreatDoor
open Go Go.Abs
attribute [local irreducible] DrawW CallW RetW AC Does CmpW

def nameK (l : List TTxt) (i : Nat) : Bool := match l[i]? with
  | some x => nameF x.text
  | none => false
def plcK (n : Int) (l : List TTxt) (i : Nat) : Bool := match l[i]? with
  | some x => plcOk n x.text
  | none => false
def txtFits (l : List TTxt) : Prop := l.length < 50000 ∧ ∀ x ∈ l, x.text.length < 50000
theorem catsName_does (m : Int) (l : List TTxt) (h : txtFits l) : Does Tryz.prog (GL m) 37 [txtL l, .func (.func 19) [] []] [] fun ae _ => ae = .ret (.bool (catsF l (nameK l))) :=
  cats_does l (by have := h.1; omega) 19 [] rfl (nameK l) fun i x hx => by
    have e1 : nameK l i = nameF x.text := by simp [nameK, hx]
    have h2 := h.2 x (List.mem_of_getElem? hx)
    rw [e1]
    exact vname_does m x.text (by omega)
theorem catsPlc_does (m : Int) (n : Int) (hn : -9223372036854775808 ≤ n ∧ n ≤ 9223372036854775807) (l : List TTxt) (h : txtFits l) : Does Tryz.prog (GL m) 37 [txtL l, plcV n] [] fun ae _ => ae = .ret (.bool (catsF l (plcK n l))) :=
  cats_does l (by have := h.1; omega) 71 [.fptr [.int .i64 n]] rfl (plcK n l) fun i x hx => by
    have e1 : plcK n l i = plcOk n x.text := by simp [plcK, hx]
    have h2 := h.2 x (List.mem_of_getElem? hx)
    rw [e1]
    exact places1_does m x.text n (by omega) hn

/-- Is a currency as it must be? -/
def moneyB (c : TCur) : Bool := codeF c.code && (maybeF c.symbol && (maybeF c.narrow && ((decide (c.names = []) || catsF c.names (nameK c.names)) && (inF c.digits 0 20 && (inF c.cashDigits 0 20 && (inF c.inc 0 1000000000 && inF c.cashInc 0 1000000000))))))
structure TCur.fits (c : TCur) : Prop where
  code : c.code.length < 50000
  symbol : c.symbol.length < 50000
  narrow : c.narrow.length < 50000
  names : txtFits c.names
theorem money_does (m : Int) (c : TCur) (hc : c.fits) : Does Tryz.prog (GL m) 33 [.agg (encCu c)] [] fun ae _ => ae = .ret (.bool (moneyB c)) := by
  obtain ⟨hf1, hf2, hf3, hf4⟩ := hc
  have ll : (c.names.map encT).length = c.names.length := by simp
  refine Does.bodyA tab Tryz.func33 rfl rfl ?_
  refine AC.step tab ?_
  refine gos ?_
  intro v1
  refine gos ?_
  refine AC.wk (Wk.ptr (k := 1) (i := 0) rfl rfl rfl rfl rfl) ?_
  refine AC.go tab ?_
  refine gos ?_
  refine CallW.pure (code_does c.code (by omega)) rfl rfl ?_
  cases h0 : codeF c.code with
  | false =>
    refine gos ?_
    refine RetW.plain (by simp) ?_
    simp [moneyB, h0]
  | true =>
  refine gos ?_
  refine CallW.pure (maybe_does m c.symbol (by omega)) rfl rfl ?_
  cases h1 : maybeF c.symbol with
  | false =>
    refine gos ?_
    refine RetW.plain (by simp) ?_
    simp [moneyB, h0, h1]
  | true =>
  refine gos ?_
  refine CallW.pure (maybe_does m c.narrow (by omega)) rfl rfl ?_
  cases h2 : maybeF c.narrow with
  | false =>
    refine gos ?_
    refine RetW.plain (by simp) ?_
    simp [moneyB, h0, h1, h2]
  | true =>
  refine gos ?_
  rw [ll]
  by_cases h3 : c.names = []
  · refine CmpW.t (by simp [h3]) ?_
    refine gos ?_
    refine CallW.pure (vin_does c.digits 0 20) rfl rfl ?_
    cases h4 : inF c.digits 0 20 with
    | false =>
      refine gos ?_
      refine RetW.plain (by simp) ?_
      simp [moneyB, h0, h1, h2, h3, h4]
    | true =>
    refine gos ?_
    refine CallW.pure (vin_does c.cashDigits 0 20) rfl rfl ?_
    cases h5 : inF c.cashDigits 0 20 with
    | false =>
      refine gos ?_
      refine RetW.plain (by simp) ?_
      simp [moneyB, h0, h1, h2, h3, h4, h5]
    | true =>
    refine gos ?_
    refine CallW.pure (vin_does c.inc 0 1000000000) rfl rfl ?_
    cases h6 : inF c.inc 0 1000000000 with
    | false =>
      refine gos ?_
      refine RetW.plain (by simp) ?_
      simp [moneyB, h0, h1, h2, h3, h4, h5, h6]
    | true =>
    refine gos ?_
    refine CallW.pure (vin_does c.cashInc 0 1000000000) rfl rfl ?_
    refine gos ?_
    refine RetW.plain (by simp) ?_
    simp [moneyB, h0, h1, h2, h3, h4, h5, h6]
  · have h3' : ¬ c.names.length = 0 := fun h => h3 (List.eq_nil_of_length_eq_zero h)
    refine CmpW.f (by simp; exact h3) ?_
    refine gos ?_
    refine CallW.pure (catsName_does m c.names hf4) rfl rfl ?_
    cases h7 : catsF c.names (nameK c.names) with
    | false =>
      refine gos ?_
      refine RetW.plain (by simp) ?_
      simp [moneyB, h0, h1, h2, h3, h7]
    | true =>
    refine gos ?_
    refine CallW.pure (vin_does c.digits 0 20) rfl rfl ?_
    cases h4 : inF c.digits 0 20 with
    | false =>
      refine gos ?_
      refine RetW.plain (by simp) ?_
      simp [moneyB, h0, h1, h2, h3, h7, h4]
    | true =>
    refine gos ?_
    refine CallW.pure (vin_does c.cashDigits 0 20) rfl rfl ?_
    cases h5 : inF c.cashDigits 0 20 with
    | false =>
      refine gos ?_
      refine RetW.plain (by simp) ?_
      simp [moneyB, h0, h1, h2, h3, h7, h4, h5]
    | true =>
    refine gos ?_
    refine CallW.pure (vin_does c.inc 0 1000000000) rfl rfl ?_
    cases h6 : inF c.inc 0 1000000000 with
    | false =>
      refine gos ?_
      refine RetW.plain (by simp) ?_
      simp [moneyB, h0, h1, h2, h3, h7, h4, h5, h6]
    | true =>
    refine gos ?_
    refine CallW.pure (vin_does c.cashInc 0 1000000000) rfl rfl ?_
    refine gos ?_
    refine RetW.plain (by simp) ?_
    simp [moneyB, h0, h1, h2, h3, h7, h4, h5, h6]

def spcOk (s : List UInt8) : Bool := match clsF s with
  | .ok c => decide (c.length ≤ 60)
  | .error _ => false
def spcB (x : TSpc) : Bool := spcOk x.cur && (spcOk x.num && maybeF x.ins)
structure TSpc.fits (x : TSpc) : Prop where
  cur : x.cur.length < 50000
  num : x.num.length < 50000
  ins : x.ins.length < 50000
theorem spacing_does (m : Int) (x : TSpc) (hx : x.fits) : Does Tryz.prog (GL m) 41 [.agg x.cells] [] fun ae _ => ae = .ret (.bool (spcB x)) := by
  obtain ⟨h1, h2, h3⟩ := hx
  have dC := ClsParse_does m x.cur (by omega)
  have dN := ClsParse_does m x.num (by omega)
  refine Does.bodyA tab Tryz.func41 rfl rfl ?_
  refine AC.step tab ?_
  refine gos ?_
  intro v1
  refine gos ?_
  refine AC.wk (Wk.ptr (k := 1) (i := 0) rfl rfl rfl rfl rfl) ?_
  refine AC.cutF tab (fun e h => spcOk x.cur = true ∧ spcOk x.num = true ∧ e = [.any, .fptr x.cells] ++ List.replicate 33 .any ∧ h = []) ?_ ?_
  · (repeat (first | refine gof ?_ | refine fun (vv : Nat) => ?_))
    refine AC.rounds tab 3 ?_
    refine gos ?_
    refine And.intro (And.intro (of_decide_eq_true rfl) (of_decide_eq_true rfl)) ?_
    (repeat (first | refine gof ?_ | refine fun (vv : Nat) => ?_))
    cases hE : clsF x.cur with
    | error p =>
      rw [hE] at dC
      refine CallW.pure dC rfl rfl ?_
      (repeat (first | refine gof ?_ | refine fun (vv : Nat) => ?_))
      refine RetW.plain (by simp) ?_
      simp [spcB, spcOk, hE]
    | ok c =>
    rw [hE] at dC
    refine CallW.pure dC rfl rfl ?_
    (repeat (first | refine gof ?_ | refine fun (vv : Nat) => ?_))
    rw [rgEs_len]
    by_cases h60 : c.length ≤ 60
    case neg =>
      refine CmpW.T ?_
      refine gos ?_
      refine RetW.plain (by simp) ?_
      simp [spcB, spcOk, hE, h60]
    have k1 : spcOk x.cur = true := by simp [spcOk, hE, h60]
    refine CmpW.N ?_
    refine gos ?_
    refine And.intro (And.intro (of_decide_eq_true rfl) (of_decide_eq_true rfl)) ?_
    (repeat (first | refine gof ?_ | refine fun (vv : Nat) => ?_))
    cases hE2 : clsF x.num with
    | error p =>
      rw [hE2] at dN
      refine CallW.pure dN rfl rfl ?_
      (repeat (first | refine gof ?_ | refine fun (vv : Nat) => ?_))
      refine RetW.plain (by simp) ?_
      simp [spcB, spcOk, hE2]
    | ok d =>
    rw [hE2] at dN
    refine CallW.pure dN rfl rfl ?_
    (repeat (first | refine gof ?_ | refine fun (vv : Nat) => ?_))
    rw [rgEs_len]
    by_cases h61 : d.length ≤ 60
    case neg =>
      refine CmpW.T ?_
      refine gos ?_
      refine RetW.plain (by simp) ?_
      simp [spcB, spcOk, hE2, h61]
    have k2 : spcOk x.num = true := by simp [spcOk, hE2, h61]
    refine CmpW.N ?_
    refine gos ?_
    exact ⟨_, 0, fgts, k1, k2, rfl, rfl⟩
  rintro e h ⟨k1, k2, rfl, rfl⟩
  refine AC.go tab ?_
  refine gos ?_
  refine CallW.pure (maybe_does m x.ins (by omega)) rfl rfl ?_
  refine gos ?_
  refine RetW.plain (by simp) ?_
  simp [spcB, k1, k2]
end Go.Proofs.YtpipbjfcbbdicaaGreatDoor
