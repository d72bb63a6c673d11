/- A table's bytes. -/
import Derived.Test.YtjjppmbojcgdgaaGreatDoorJ20
import Derived.Test.YtjjppmbojcgdgaaGreatDoorJ18
set_option linter.unusedVariables false
set_option linter.unusedSimpArgs false
set_option maxRecDepth 100000
set_option maxHeartbeats 4000000

namespace Go.Proofs.YtjjppmbojcgdgaaGreatDoor
open Go Go.Abs
attribute [local irreducible] DrawW CallW RetW AC Does CmpW
structure Rul where
  cat : Nat
  any : List (List Rel)
  smp : List UInt8
def encAll (xs : List Rel) : List AV := [.fsl (xs.map encRel)]
def encRul (x : Rul) : List AV := [.int .i64 x.cat, .fsl (x.any.map encAll), .str x.smp]
theorem encAlls_closed : ∀ rs : List (List Rel), closedLL (rs.map encAll) = true
  | [] => rfl
  | r :: rs => by simp [closedLL, encAll, closedL, closed]; exact encAlls_closed rs
def Fnd.get (F : Fnd) : Nat → Bool
  | 0 => F.c0
  | 1 => F.c1
  | 2 => F.c2
  | 3 => F.c3
  | 4 => F.c4
  | _ => F.c5
def Fnd.put (F : Fnd) : Nat → Fnd
  | 0 => { F with c0 := true }
  | 1 => { F with c1 := true }
  | 2 => { F with c2 := true }
  | 3 => { F with c3 := true }
  | 4 => { F with c4 := true }
  | _ => { F with c5 := true }
def orS : List UInt8 := [111, 114]
def orL (s : List UInt8) : Nat → Nat → Nat → List (List Rel) → Except (Int × Nat) (List (List Rel) × Nat × Nat)
  | 0, a, n, xs => .ok (xs, a, n)
  | f + 1, a, n, xs =>
    if wd s a = orS then match allF s (bl s a + 2) n with
      | .error r => .error r
      | .ok (x, b, n') => orL s f b n' (xs ++ [x])
    else .ok (xs, bl s a, n)
def anyF (s : List UInt8) (c a n : Nat) : Except (Int × Nat) (List (List Rel) × Nat × Nat) :=
  if c = 5 then .ok ([], a, n) else match allF s a n with
    | .error r => .error r
    | .ok (x, b, n') => orL s (s.length + 1 - b) b n' [x]
def rulF (s : List UInt8) (a n : Nat) (F : Fnd) : Except (Int × Nat) (Rul × Nat × Nat × Fnd) :=
  match catOf (wd s a) with
  | none => .error (1, bl s a)
  | some c =>
    if F.get c then .error (7, bl s a)
    else if pre s (bl s (bl s a + (wd s a).length)) [58] then match anyF s c (bl s (bl s a + (wd s a).length) + 1) n with
      | .error r => .error r
      | .ok (xs, b, n') => .ok (⟨c, xs, (smpF s b).1⟩, (smpF s b).2, n', F.put c)
    else .error (1, bl s (bl s a + (wd s a).length))
theorem orL_le {s : List UInt8} : ∀ (f a n : Nat) (xs out : List (List Rel)) (b n' : Nat), a ≤ s.length → n ≤ 200 → orL s f a n xs = .ok (out, b, n') → b ≤ s.length ∧ a ≤ b ∧ n' ≤ 200
  | 0, a, n, xs, out, b, n', ha, hn, h => by simp [orL] at h; omega
  | f + 1, a, n, xs, out, b, n', ha, hn, h => by
    have hb := bl_le ha
    unfold orL at h
    split at h
    · rename_i hw
      have hl : bl s a + (wd s a).length ≤ s.length := tw_le _ hb.2
      rw [hw] at hl
      simp only [orS, List.length_cons, List.length_nil] at hl
      split at h; · cases h
      rename_i x c n2 hv
      have h1 := allF_le (by omega) hv
      have := orL_le f c _ _ out b n' h1.2.1 h1.2.2 h
      omega
    · simp only [Except.ok.injEq, Prod.mk.injEq] at h
      omega
theorem anyF_le {s : List UInt8} {c a n : Nat} (ha : a ≤ s.length) (hn : n ≤ 200) {xs : List (List Rel)} {b n' : Nat} (h : anyF s c a n = .ok (xs, b, n')) : a ≤ b ∧ b ≤ s.length ∧ n' ≤ 200 := by
  unfold anyF at h
  split at h
  · simp only [Except.ok.injEq, Prod.mk.injEq] at h; omega
  · split at h; · cases h
    rename_i x c n2 hv
    have h1 := allF_le ha hv
    have := orL_le _ _ _ _ _ _ _ h1.2.1 h1.2.2 h
    omega
theorem rulF_le {s : List UInt8} {a n : Nat} {F : Fnd} (ha : a ≤ s.length) (hn : n ≤ 200) {x : Rul} {b n' : Nat} {F' : Fnd} (h : rulF s a n F = .ok (x, b, n', F')) : a < b ∧ b ≤ s.length ∧ n' ≤ 200 := by
  have hb := bl_le ha
  have hl : bl s a + (wd s a).length ≤ s.length := tw_le _ hb.2
  have hb2 := bl_le hl
  unfold rulF at h
  split at h; · cases h
  split at h; · cases h
  split at h
  · rename_i hp
    have hle := pre_le hp (by simp)
    simp only [List.length_cons, List.length_nil] at hle
    split at h; · cases h
    rename_i xs c n2 hv
    have h1 := anyF_le (by omega) hn hv
    have h2 := smpF_le h1.2.1
    simp only [Except.ok.injEq, Prod.mk.injEq] at h
    omega
  · cases h
theorem rule_does (m : Int) (s : List UInt8) (a n : Nat) (F : Fnd) (ha : a ≤ s.length) (hs : s.length < 100000) (hn : n ≤ 200) (ver : Nat) :
    Does Tryz.prog (GL m) 189 [.ptr 0 ver 0 0] [some (rro ver s a n F)] fun ae O => match rulF s a n F with
      | .error r => ae = .panic (rfault r)
      | .ok (x, b, n', F') => ae = .ret (.agg (encRul x)) ∧ O = [some (rro ver s b n' F')] := by
  refine Does.bodyA tab Tryz.func189 rfl rfl ?_
  refine AC.step tab ?_
  refine gos ?_
  intro v1
  refine gos ?_
  refine AC.step tab ?_
  refine gos ?_
  refine CallW.meth 0 (word_does s a n F ha hs ver) rfl rfl rfl rfl rfl rfl ?_
  have hb := bl_le ha
  have hl : bl s a + (wd s a).length ≤ s.length := tw_le _ hb.2
  have hb2 := bl_le hl
  refine gos ?_
  refine AC.step tab ?_
  refine gos ?_
  refine AC.step tab ?_
  refine gos ?_
  refine CallW.pure (CatOf_does (GL m) (wd s a)) rfl (by cases catOf (wd s a) <;> rfl) ?_
  cases hc : catOf (wd s a) with
  | none =>
    refine gos ?_
    refine AC.step tab ?_
    refine gos ?_
    refine CallW.of0 (rfail_does _ _) rfl ?_
    rintro ae ⟨rfl, _⟩
    refine ⟨rfl, ?_⟩
    refine gos ?_
    exact ⟨by simp, by simp [rulF, hc]⟩
  | some c =>
  simp only
  refine gos ?_
  obtain ⟨hc6, hwc⟩ := catOf_lt hc
  -- is it there already?
  refine AC.cutF tab (fun e h => F.get c = false ∧ e = [.ptr 0 ver 0 0, .any, .ptr 1 v1 0 0, .str (wd s a), .any, .int .i64 c] ++ List.replicate 67 .any ∧ h = [some (rro ver s (bl s a) n F), some ⟨v1, 215, 3, [[.int .i64 0, .nils, .str []]]⟩]) ?_ ?_
  · have h6 : c = 0 ∨ c = 1 ∨ c = 2 ∨ c = 3 ∨ c = 4 ∨ c = 5 := by omega
    rcases h6 with rfl | rfl | rfl | rfl | rfl | rfl
    all_goals
      (repeat (first | refine gof ?_ | refine fun (vv : Nat) => ?_))
      refine And.intro (fun hF => ?_) (fun hF => ?_)
      · refine gos ?_
        refine CallW.of0 (rfail_does _ _) rfl ?_
        rintro ae ⟨rfl, _⟩
        refine ⟨rfl, ?_⟩
        refine gos ?_
        exact ⟨by simp, by simp [rulF, hc, Fnd.get, hF]⟩
      · refine gos ?_
        exact ⟨_, 2, fgts, hF, rfl, rfl⟩
  rintro e h ⟨hF, rfl, rfl⟩
  refine AC.cutF tab (fun e h => e = [.ptr 0 ver 0 0, .any, .ptr 1 v1 0 0, .str (wd s a), .any, .int .i64 c] ++ List.replicate 67 .any ∧ h = [some (rro ver s (bl s a) n (F.put c)), some ⟨v1, 215, 3, [[.int .i64 0, .nils, .str []]]⟩]) ?_ ?_
  · have h6 : c = 0 ∨ c = 1 ∨ c = 2 ∨ c = 3 ∨ c = 4 ∨ c = 5 := by omega
    rcases h6 with rfl | rfl | rfl | rfl | rfl | rfl
    all_goals
      (repeat (first | refine gof ?_ | refine fun (vv : Nat) => ?_))
      exact ⟨_, 2, fgts, rfl, rfl⟩
  rintro e h ⟨rfl, rfl⟩
  refine AC.step tab ?_
  refine gos ?_
  refine AC.step tab ?_
  refine gos ?_
  have w1 := want_does (G := GL m) s [58] (bl s a + (wd s a).length) n (F.put c) hl hs ver
  cases hp : pre s (bl s (bl s a + (wd s a).length)) [58] with
  | false =>
    rw [hp] at w1
    simp only at w1
    refine CallW.pan1 0 w1 rfl rfl rfl rfl rfl (fun s' hl => ?_)
    refine gos ?_
    exact ⟨by rw [hl]; simp, by simp [rulF, hc, hF, hp]⟩
  | true =>
  have hle := pre_le hp (by simp)
  simp only [List.length_cons, List.length_nil] at hle
  rw [hp] at w1
  simp only [List.length_cons, List.length_nil, Nat.zero_add] at w1
  refine CallW.meth 0 w1 rfl rfl rfl rfl rfl rfl ?_
  obtain ⟨d0, hd0⟩ : ∃ d0, d0 = bl s (bl s a + (wd s a).length) + 1 := ⟨_, rfl⟩
  have hd0l : d0 ≤ s.length := by omega
  have hspec : ∀ X, anyF s c d0 n = X → rulF s a n F = match X with
      | .error r => .error r
      | .ok (xs, b, n') => .ok (⟨c, xs, (smpF s b).1⟩, (smpF s b).2, n', F.put c) := by
    rintro X rfl
    simp only [rulF, hc, hF, hp, Bool.false_eq_true, if_false, if_true, hd0]
  rw [← hd0]
  clear w1
  refine gos ?_
  refine AC.step tab ?_
  refine gos ?_
  intro v2
  refine gos ?_
  -- its relations
  refine AC.cutF tab (fun e h => ∃ xs d n', anyF s c d0 n = .ok (xs, d, n') ∧ d ≤ s.length ∧ n' ≤ 200 ∧ e = [.ptr 0 ver 0 0, .any, .ptr 1 v1 0 0, .any, .any, .any, .any, .ptr 2 v2 0 0] ++ List.replicate 65 .any ∧
    ((xs = [] ∧ h = [some (rro ver s d n' (F.put c)), some ⟨v1, 215, 3, [[.int .i64 0, .nils, .str []]]⟩, some ⟨v2, 215, 3, [[.int .i64 c, .nils, .str []]]⟩]) ∨
      ∃ vw o3, h = [some (rro ver s d n' (F.put c)), some ⟨v1, 215, 3, [[.int .i64 0, .nils, .str []]]⟩, some ⟨v2, 215, 3, [[.int .i64 c, .sl 4 vw, .str []]]⟩, o3, some ⟨vw, 216, 1, xs.map encAll⟩])) ?_ ?_
  · refine gos ?_
    by_cases h5 : c = 5
    · refine CmpW.N ?_
      refine gos ?_
      exact ⟨_, 3, fgts, [], d0, n, by simp [anyF, h5], hd0l, hn, rfl, .inl ⟨rfl, rfl⟩⟩
    · refine CmpW.T ?_
      refine gos ?_
      have r1 := all_does m s d0 n (F.put c) hd0l hs hn ver
      cases hA : allF s d0 n with
      | error r =>
        rw [hA] at r1
        simp only at r1
        have hE := hspec (.error r) (by simp [anyF, h5, hA])
        refine DrawW.P (.take 0 (.take 2 (.fork (.cons 1 (.take 3 (.take 4 (.take 5 (.take 6 (.take 7 .done))))) (.cons 3 (.fork (.cons 1 (.take 4 (.take 5 (.take 6 (.take 7 .done)))) (.cons 4 (.take 1 (.take 5 (.take 6 (.take 7 .done)))) .nil))) .nil))))) ?_
        (repeat' (first | exact trivial | refine gon ?_ | refine CallW.pan1 0 r1 rfl rfl rfl rfl rfl (fun s' hl => ?_) | refine And.intro ?_ ?_))
        all_goals first | (rw [hl]; simp; done) | (simp only [hE]; done)
      | ok q =>
      obtain ⟨x, b, n1⟩ := q
      rw [hA] at r1
      simp only at r1
      have h1 := allF_le hd0l hA
      refine DrawW.P (.take 0 (.take 2 (.fork (.cons 1 (.take 3 (.take 4 (.take 5 (.take 6 (.take 7 .done))))) (.cons 3 (.fork (.cons 1 (.take 4 (.take 5 (.take 6 (.take 7 .done)))) (.cons 4 (.take 1 (.take 5 (.take 6 (.take 7 .done)))) .nil))) .nil))))) ?_
      (repeat' (first | exact trivial | refine gon ?_ | refine CallW.meth 0 r1 rfl rfl rfl rfl rfl rfl ?_ | refine fun (vv : Nat) => ?_ | (refine And.intro (And.intro (fun y hy => by rcases List.mem_singleton.1 hy with rfl; rfl) (fun y hy => by rcases List.mem_singleton.1 hy with rfl; rfl)) ?_; refine And.intro (And.intro rfl trivial) ?_) | refine gobnd ?_ | refine And.intro ?_ ?_))
      all_goals
        refine AC.loopC tab (fun f e h => ∃ (xs : List (List Rel)) (b' n' vw : Nat) (o3 : Option AObj), s.length < f + b' ∧ b' ≤ s.length ∧ n' ≤ 200 ∧ xs.length ≤ b' + 1 ∧ orL s (s.length + 1 - b) b n1 [x] = orL s f b' n' xs ∧
          e = [.ptr 0 ver 0 0, .any, .ptr 1 v1 0 0, .any, .any, .any, .any, .ptr 2 v2 0 0] ++ List.replicate 65 .any ∧
          h = [some (rro ver s b' n' (F.put c)), some ⟨v1, 215, 3, [[.int .i64 0, .nils, .str []]]⟩, some ⟨v2, 215, 3, [[.int .i64 c, .sl 4 vw, .str []]]⟩, o3, some ⟨vw, 216, 1, xs.map encAll⟩])
          (s.length + 1 - b) ⟨_, fgts, [x], b, n1, vv, _, by omega, h1.2.1, h1.2.2, by simp, rfl, rfl, rfl⟩ ?_
        rintro f e h ⟨xs, b', n', vw, o3, hf, hb', hn', hxl, hal, rfl, rfl⟩
        obtain ⟨f, rfl⟩ : ∃ q, f = q + 1 := ⟨f - 1, by omega⟩
        have hq1 := bl_le hb'
        have hl2 : bl s b' + (wd s b').length ≤ s.length := tw_le _ hq1.2
        refine gos ?_
        by_cases hw : wd s b' = orS
        · have hw' := hw
          unfold orS at hw'
          rw [hw'] at hl2
          simp only [List.length_cons, List.length_nil] at hl2
          refine CallW.meth 0 (next_t (bl s b' + 2) hw' rfl n' (F.put c) hb' hs ver) rfl rfl rfl rfl rfl rfl ?_
          refine gos ?_
          have r2 := all_does m s (bl s b' + 2) n' (F.put c) (by omega) hs hn' ver
          simp only [orL, hw, if_true] at hal
          cases hA2 : allF s (bl s b' + 2) n' with
          | error r =>
            rw [hA2] at r2 hal
            simp only at r2 hal
            have hE := hspec (.error r) (by simp [anyF, h5, hA, hal])
            refine DrawW.P (.take 0 (.take 2 (.fork (.cons 1 (.take 3 (.take 4 (.take 5 (.take 6 (.take 7 .done))))) (.cons 3 (.fork (.cons 1 (.take 4 (.take 5 (.take 6 (.take 7 .done)))) (.cons 4 (.take 1 (.take 5 (.take 6 (.take 7 .done)))) .nil))) .nil))))) ?_
            (repeat' (first | exact trivial | refine gon ?_ | refine CallW.pan1 0 r2 rfl rfl rfl rfl rfl (fun s' hl => ?_) | refine And.intro ?_ ?_))
            all_goals first | (rw [hl]; simp; done) | (simp only [hE]; done)
          | ok q =>
            obtain ⟨y, d2, n2⟩ := q
            rw [hA2] at r2 hal
            simp only at r2 hal
            have h2 := allF_le (by omega) hA2
            refine DrawW.P (.take 0 (.take 2 (.fork (.cons 1 (.take 3 (.take 4 (.take 5 (.take 6 (.take 7 .done))))) (.cons 3 (.fork (.cons 1 (.take 4 (.take 5 (.take 6 (.take 7 .done)))) (.cons 4 (.take 1 (.take 5 (.take 6 (.take 7 .done)))) .nil))) .nil))))) ?_
            (repeat' (first | exact trivial | refine gon ?_ | refine CallW.meth 0 r2 rfl rfl rfl rfl rfl rfl ?_ | refine fun (vv : Nat) => ?_ | (refine And.intro (And.intro (fun y hy => by rcases List.mem_singleton.1 hy with rfl; rfl) (fun y hy => by rcases List.mem_singleton.1 hy with rfl; rfl)) ?_; refine And.intro (And.intro rfl trivial) ?_) | refine gobnd ?_ | refine And.intro ?_ ?_))
            all_goals
              refine ⟨f, _, 5, by omega, fgts, xs ++ [y], d2, n2, vv, o3, by omega, h2.2.1, h2.2.2, by simp; omega, hal, rfl, ?_⟩
              rw [List.map_append]; rfl
        · simp only [orL, if_neg hw] at hal
          refine CallW.meth 0 (next_f hw n' (F.put c) hb' hs ver) rfl rfl rfl rfl rfl rfl ?_
          refine gos ?_
          exact ⟨_, 5, fgts, xs, bl s b', n', by simp [anyF, h5, hA, hal], hq1.2, hn', rfl, .inr ⟨vw, o3, rfl⟩⟩
  rintro e h ⟨xs, d, n', hA, hd, hn', rfl, ⟨rfl, rfl⟩ | ⟨vw, o3, rfl⟩⟩
  · have hE := hspec _ hA
    refine AC.go tab ?_
    refine gos ?_
    refine CallW.meth 0 (sample_does m s d n' (F.put c) hd hs ver) rfl rfl rfl rfl rfl rfl ?_
    refine gos ?_
    refine RetW.wk (r' := .agg (encRul ⟨c, [], (smpF s d).1⟩)) (s' := [some (rro ver s (smpF s d).2 n' (F.put c)), some ⟨v1, 215, 3, [[.int .i64 c, .nils, .str (smpF s d).1]]⟩, some ⟨v2, 215, 3, [[.int .i64 c, .nils, .str (smpF s d).1]]⟩]) (by simp) rfl ?_ ?_
    · exact Wk.agg (cs := [.int .i64 c, .nils, .str (smpF s d).1]) (cs' := encRul ⟨c, [], (smpF s d).1⟩) rfl (Wk.nil (k := 1) rfl)
    · simp only [hE]
      (first | exact ⟨rfl, rfl⟩ | exact ⟨trivial, rfl⟩ | exact ⟨rfl, trivial⟩ | rfl | trivial | done)
  · have hE := hspec _ hA
    refine AC.go tab ?_
    refine gos ?_
    refine CallW.meth 0 (sample_does m s d n' (F.put c) hd hs ver) rfl rfl rfl rfl rfl rfl ?_
    refine gos ?_
    refine RetW.wk (r' := .agg (encRul ⟨c, xs, (smpF s d).1⟩)) (s' := [some (rro ver s (smpF s d).2 n' (F.put c)), some ⟨v1, 215, 3, [[.int .i64 c, .sl 4 vw, .str (smpF s d).1]]⟩, some ⟨v2, 215, 3, [[.int .i64 c, .sl 4 vw, .str (smpF s d).1]]⟩, o3, none]) (by simp) rfl ?_ ?_
    · exact Wk.agg (cs := [.int .i64 c, .sl 4 vw, .str (smpF s d).1]) (cs' := encRul ⟨c, xs, (smpF s d).1⟩) rfl (Wk.row (k := 1) (i := 4) (o := ⟨vw, 216, 1, xs.map encAll⟩) rfl rfl rfl (encAlls_closed xs))
    · simp only [hE]
      (first | exact ⟨rfl, rfl⟩ | exact ⟨trivial, rfl⟩ | exact ⟨rfl, trivial⟩ | rfl | trivial | done)
end Go.Proofs.YtjjppmbojcgdgaaGreatDoor

namespace Go.Proofs.YtjjppmbojcgdgaaGreatDoor
open Go Go.Abs
attribute [local irreducible] DrawW CallW RetW AC Does CmpW
variable {G : Globs}
def enc5 (t : TTab) : List UInt8 := listW untW t.units ++ listW txtW t.munit
def enc4 (t : TTab) : List UInt8 := listW curW t.curs ++ enc5 t
def enc3 (t : TTab) : List UInt8 := listW rowW t.short ++ (listW rowW t.long ++ (listW rowW t.mshort ++ enc4 t))
def encH (v rv : Nat) (l : List UInt8) : AHeap := [none, some (wrtO 171 v (.sl 2 rv)), some ⟨rv, 5, 1, byteEs' l⟩]
theorem enc_split (t : TTab) : encF t = (strs27 t).flatMap textW ++ (numW t.minGroup ++ enc3 t) := by
  simp [encF, strs27, enc3, enc4, enc5]
theorem Encode_does (t : TTab) (hb : t.below = true) (hl : (encF t).length ≤ 65536) : Does Tryz.prog G 32 [.agg (tabC t)] [] fun ae _ => ae = .ret (.str (encF t)) := by
  have hS := enc_split t
  have hl0 := hl
  rw [hS] at hl
  obtain ⟨S, hSd⟩ : ∃ S, S = (strs27 t).flatMap textW := ⟨_, rfl⟩
  rw [← hSd] at hS hl
  have hlen := congrArg List.length hS
  simp only [enc3, enc4, enc5, List.length_append] at hl
  simp only [TTab.below, Bool.and_eq_true] at hb
  obtain ⟨b0, b1, b2, b3, b4, b5, b6⟩ := hb
  have b0 : t.minGroup < 9223372036854775808 := by simpa [belN] using b0
  have lc : (t.curs.map encCu).length = t.curs.length := by simp
  have lu : (t.units.map encU).length = t.units.length := by simp
  have hCl := listW_len curW t.curs
  have hUl := listW_len untW t.units
  have hCf := len_flat (w := curW) curW_pos t.curs
  have hUf := len_flat (w := untW) untW_pos t.units
  refine Does.bodyA tab Tryz.func32 rfl rfl ?_
  refine AC.step tab ?_
  refine gos ?_
  intro v0
  refine gos ?_
  refine AC.step tab ?_
  refine gos ?_
  intro v1
  refine gos ?_
  refine AC.wk (Wk.ptr (k := 1) (i := 0) rfl rfl rfl rfl rfl) ?_
  refine AC.ownC 1 0 5 1 rfl rfl rfl (by omega) fun v2 => ?_
  refine AC.cutA (fun e h => ∃ rv, e = (List.replicate 1 .any ++ [.fptr (tabC t)] ++ List.replicate 1 .any ++ [.ptr 1 v1 0 0] ++ List.replicate 109 .any) ∧ h = encH v1 rv S) ?_ ?_
  · refine AC.step tab ?_
    refine gos ?_
    refine CallW.pure (textsF_does t) rfl rfl ?_
    refine gos ?_
    refine AC.blk ?_
    refine AC.loopC tab (fun f e h => ∃ (i rv : Nat), f + i = 28 ∧ i ≤ 27 ∧ e = (List.replicate 1 .any ++ [.fptr (tabC t)] ++ List.replicate 1 .any ++ [.ptr 1 v1 0 0] ++ List.replicate 10 .any ++ [.fsl (ptrsF t), .int .i64 27, .int .i64 i] ++ List.replicate 96 .any) ∧ h = encH v1 rv (((strs27 t).take i).flatMap textW))
      28 ⟨_, fgts, 0, v2, by omega, by omega, rfl, rfl⟩ ?_
    rintro f e h ⟨i, rv, hf, hi, rfl, rfl⟩
    refine gos ?_
    by_cases hlt : i < 27
    · obtain ⟨s, cs, hs, hp⟩ := ptrsF_get t hlt
      have htk := flat_take_succ textW hs
      have h1 := flat_take_le textW (strs27 t) (i + 1)
      rw [htk, List.length_append, ← hSd] at h1
      have h4 : s.length ≤ (textW s).length := by rw [textW, List.length_append]; omega
      refine CmpW.T ?_
      refine gos ?_
      refine And.intro (ptrsF_one t) (And.intro (by omega) ⟨[.fptr (.str s :: cs)], by rw [Int.toNat_natCast]; exact hp, ?_⟩)
      refine gos ?_
      refine CallW.wrt (i := 1) (j := 2) (by decide) rfl rfl (WText_does v1 rv s _ (by omega) (by omega)) rfl (fun rv2 => ?_)
      refine gos ?_
      exact ⟨f - 1, _, 3, by omega, fgts, i + 1, rv2, by omega, by omega, rfl, by rw [htk]; rfl⟩
    · refine CmpW.N ?_
      refine gos ?_
      have : i = 27 := by omega
      subst this
      exact ⟨_, 3, fgts, rv, rfl, by rw [hSd]; rfl⟩
  rintro e h ⟨rv, rfl, rfl⟩
  refine AC.step tab ?_
  refine gos ?_
  refine CallW.wrt (i := 1) (j := 2) (by decide) rfl rfl (WNum_does v1 rv t.minGroup S b0 (by omega)) rfl (fun rv1 => ?_)
  refine gos ?_
  refine AC.cutA (fun e h => ∃ rv, e = (List.replicate 1 .any ++ [.fptr (tabC t)] ++ List.replicate 1 .any ++ [.ptr 1 v1 0 0] ++ List.replicate 109 .any) ∧ h = encH v1 rv (S ++ numW t.minGroup ++ listW rowW t.short ++ listW rowW t.long ++ listW rowW t.mshort)) ?_ ?_
  · refine AC.step tab ?_
    refine gos ?_
    intro v3
    refine gos ?_
    refine AC.go tab ?_
    refine gos ?_
    refine AC.rounds tab 4 ?_
    (repeat (first | refine gof ?_ | refine fun (vv : Nat) => ?_))
    refine And.intro (And.intro (by decide) (by show ((0 : Nat) : Int) < ((3 : Nat) : Int); decide)) ?_
    refine gos ?_
    refine CallW.wrt (i := 1) (j := 2) (by decide) rfl rfl (layRows_does v1 rv1 t.short _ b1 (by simp only [List.length_append]; omega)) rfl (fun rv2 => ?_)
    refine gos ?_
    refine And.intro (And.intro (by decide) (by show ((1 : Nat) : Int) < ((3 : Nat) : Int); decide)) ?_
    refine gos ?_
    refine CallW.wrt (i := 1) (j := 2) (by decide) rfl rfl (layRows_does v1 rv2 t.long _ b2 (by simp only [List.length_append]; omega)) rfl (fun rv3 => ?_)
    refine gos ?_
    refine And.intro (And.intro (by decide) (by show ((2 : Nat) : Int) < ((3 : Nat) : Int); decide)) ?_
    refine gos ?_
    refine CallW.wrt (i := 1) (j := 2) (by decide) rfl rfl (layRows_does v1 rv3 t.mshort _ b3 (by simp only [List.length_append]; omega)) rfl (fun rv4 => ?_)
    refine gos ?_
    exact ⟨_, 3, fgts, rv4, rfl, rfl⟩
  rintro e h ⟨rv2, rfl, rfl⟩
  obtain ⟨S2, hS2⟩ : ∃ S2, S2 = S ++ numW t.minGroup ++ listW rowW t.short ++ listW rowW t.long ++ listW rowW t.mshort := ⟨_, rfl⟩
  have hS3 : encF t = S2 ++ enc4 t := by rw [hS, hS2, enc3]; simp only [List.append_assoc]
  have hL2 : S2.length + (listW curW t.curs).length + (listW untW t.units).length + (listW txtW t.munit).length ≤ 65536 := by
    rw [hS2]; simp only [List.length_append]; omega
  rw [← hS2]
  clear hS2 hS hl hlen
  refine AC.step tab ?_
  refine gos ?_
  rw [lc]
  refine CallW.wrt (i := 1) (j := 2) (by decide) rfl rfl (WNum_does v1 rv2 t.curs.length S2 (by omega) (by omega)) rfl (fun rv3 => ?_)
  refine gos ?_
  refine AC.cutA (fun e h => ∃ rv, e = (List.replicate 1 .any ++ [.fptr (tabC t)] ++ List.replicate 1 .any ++ [.ptr 1 v1 0 0] ++ List.replicate 109 .any) ∧ h = encH v1 rv (S2 ++ listW curW t.curs)) ?_ ?_
  · refine AC.step tab ?_
    refine gos ?_
    rw [lc]
    refine AC.blk ?_
    refine AC.loopA (fun f e h => ∃ (i rv : Nat), f + i = t.curs.length + 1 ∧ i ≤ t.curs.length ∧ e = (List.replicate 1 .any ++ [.fptr (tabC t)] ++ List.replicate 1 .any ++ [.ptr 1 v1 0 0] ++ List.replicate 48 .any ++ [.fsl (t.curs.map encCu), .int .i64 t.curs.length, .int .i64 i] ++ List.replicate 58 .any) ∧ h = encH v1 rv (S2 ++ numW t.curs.length ++ (t.curs.take i).flatMap curW))
      (t.curs.length + 1) ⟨_, fgts, 0, rv3, by omega, by omega, rfl, by simp; rfl⟩ ?_
    rintro f e h ⟨i, rv, hf, hi, rfl, rfl⟩
    refine AC.step tab ?_
    refine gos ?_
    by_cases hlt : i < t.curs.length
    · obtain ⟨x, hx⟩ : ∃ d, t.curs[i]? = some d := ⟨_, List.getElem?_eq_getElem hlt⟩
      have hxb := List.all_eq_true.1 b5 x (List.mem_of_getElem? hx)
      simp only [belC, Bool.and_eq_true, belN, decide_eq_true_eq] at hxb
      obtain ⟨c1, c2, c3, c4, c5⟩ := hxb
      have htk := flat_take_succ curW hx
      have h1 := flat_take_le curW t.curs (i + 1)
      rw [htk, List.length_append] at h1
      have h3 := congrArg List.length (show curW x = _ from rfl)
      simp only [curW, List.length_append] at h3
      have k1 : x.code.length ≤ (textW x.code).length := by rw [textW, List.length_append]; omega
      have k2 : x.symbol.length ≤ (textW x.symbol).length := by rw [textW, List.length_append]; omega
      have k3 : x.narrow.length ≤ (textW x.narrow).length := by rw [textW, List.length_append]; omega
      have hcw : (curW x).length = (textW x.code).length + ((textW x.symbol).length + ((textW x.narrow).length + ((listW txtW x.names).length + ((numW x.digits).length + ((numW x.inc).length + ((numW x.cashDigits).length + (numW x.cashInc).length)))))) := by simp only [curW, List.length_append]
      refine CmpW.T ?_
      refine gos ?_
      refine AC.step tab ?_
      refine gos ?_
      refine AC.seqA ?_
      refine AC.blk ?_
      refine AC.step tab ?_
      refine gos ?_
      refine And.intro (encCu_eight t.curs) (And.intro (by omega) ⟨encCu x, by rw [Int.toNat_natCast]; exact map_get hx, ?_⟩)
      refine gos ?_
      intro v4
      refine gos ?_
      refine AC.wk (Wk.ptr (k := 9) (i := 3) rfl rfl rfl rfl rfl) ?_
      refine AC.step tab ?_
      refine DrawW.P (.take 0 (.take 1 (.takeF 2 (.take 4 (.takeF 5 (.take 7 (.takeF 8 (.take 3 (.take 6 (.take 9 .done)))))))))) ?_
      refine gos ?_
      refine CallW.wrt (i := 1) (j := 2) (by decide) rfl rfl (WText_does v1 rv x.code _ (by omega) (by simp only [List.length_append]; omega)) rfl (fun ra => ?_)
      refine gos ?_
      refine CallW.wrt (i := 1) (j := 2) (by decide) rfl rfl (WText_does v1 ra x.symbol _ (by omega) (by simp only [List.length_append]; omega)) rfl (fun rb => ?_)
      refine gos ?_
      refine CallW.wrt (i := 1) (j := 2) (by decide) rfl rfl (WText_does v1 rb x.narrow _ (by omega) (by simp only [List.length_append]; omega)) rfl (fun rc => ?_)
      refine gos ?_
      refine AC.step tab ?_
      refine gos ?_
      refine CallW.wrt (i := 1) (j := 2) (by decide) rfl rfl (layTexts_does v1 rc x.names _ c1 (by simp only [List.length_append]; omega)) rfl (fun rd => ?_)
      refine gos ?_
      refine AC.go tab ?_
      refine DrawW.P (.take 0 (.take 1 (.takeF 2 (.take 4 (.takeF 5 (.take 7 (.takeF 8 (.take 10 (.takeF 11 (.take 3 (.take 6 (.take 9 (.take 12 .done))))))))))))) ?_
      refine gos ?_
      refine CallW.wrt (i := 1) (j := 2) (by decide) rfl rfl (WNum_does v1 rd x.digits _ c2 (by simp only [List.length_append]; omega)) rfl (fun re => ?_)
      refine gos ?_
      refine CallW.wrt (i := 1) (j := 2) (by decide) rfl rfl (WNum_does v1 re x.inc _ c3 (by simp only [List.length_append]; omega)) rfl (fun rg => ?_)
      refine gos ?_
      refine CallW.wrt (i := 1) (j := 2) (by decide) rfl rfl (WNum_does v1 rg x.cashDigits _ c4 (by simp only [List.length_append]; omega)) rfl (fun rh => ?_)
      refine gos ?_
      refine CallW.wrt (i := 1) (j := 2) (by decide) rfl rfl (WNum_does v1 rh x.cashInc _ c5 (by simp only [List.length_append]; omega)) rfl (fun ri => ?_)
      refine gos ?_
      refine AC.go tab ?_
      refine gos ?_
      exact ⟨f - 1, _, 3, by omega, fgts, i + 1, ri, by omega, by omega, rfl, by rw [htk]; simp only [curW, List.append_assoc]; rfl⟩
    · refine CmpW.N ?_
      refine gos ?_
      refine AC.go tab ?_
      refine gos ?_
      have : i = t.curs.length := by omega
      subst this
      exact ⟨_, 3, fgts, rv, rfl, by rw [List.take_length]; simp only [listW, List.append_assoc]; rfl⟩
  rintro e h ⟨rv4, rfl, rfl⟩
  refine AC.step tab ?_
  refine gos ?_
  rw [lu]
  refine CallW.wrt (i := 1) (j := 2) (by decide) rfl rfl (WNum_does v1 rv4 t.units.length _ (by omega) (by simp only [List.length_append]; omega)) rfl (fun rv5 => ?_)
  refine gos ?_
  refine AC.cutA (fun e h => ∃ rv, e = (List.replicate 1 .any ++ [.fptr (tabC t)] ++ List.replicate 1 .any ++ [.ptr 1 v1 0 0] ++ List.replicate 109 .any) ∧ h = encH v1 rv (S2 ++ listW curW t.curs ++ listW untW t.units)) ?_ ?_
  · refine AC.step tab ?_
    refine gos ?_
    rw [lu]
    refine AC.blk ?_
    refine AC.loopA (fun f e h => ∃ (i rv : Nat), f + i = t.units.length + 1 ∧ i ≤ t.units.length ∧ e = (List.replicate 1 .any ++ [.fptr (tabC t)] ++ List.replicate 1 .any ++ [.ptr 1 v1 0 0] ++ List.replicate 88 .any ++ [.fsl (t.units.map encU), .int .i64 t.units.length, .int .i64 i] ++ List.replicate 18 .any) ∧ h = encH v1 rv (S2 ++ listW curW t.curs ++ numW t.units.length ++ (t.units.take i).flatMap untW))
      (t.units.length + 1) ⟨_, fgts, 0, rv5, by omega, by omega, rfl, by simp; rfl⟩ ?_
    rintro f e h ⟨i, rv, hf, hi, rfl, rfl⟩
    refine AC.step tab ?_
    refine gos ?_
    by_cases hlt : i < t.units.length
    · obtain ⟨x, hx⟩ : ∃ d, t.units[i]? = some d := ⟨_, List.getElem?_eq_getElem hlt⟩
      have c1 := List.all_eq_true.1 b6 x (List.mem_of_getElem? hx)
      have htk := flat_take_succ untW hx
      have h1 := flat_take_le untW t.units (i + 1)
      rw [htk, List.length_append] at h1
      have k1 : x.name.length ≤ (textW x.name).length := by rw [textW, List.length_append]; omega
      have hcw : (untW x).length = (textW x.name).length + (listW txtW x.texts).length := by simp only [untW, List.length_append]
      refine CmpW.T ?_
      refine gos ?_
      refine AC.step tab ?_
      refine gos ?_
      refine AC.seqA ?_
      refine AC.blk ?_
      refine AC.step tab ?_
      refine gos ?_
      refine And.intro (encU_two t.units) (And.intro (by omega) ⟨encU x, by rw [Int.toNat_natCast]; exact map_get hx, ?_⟩)
      refine gos ?_
      intro v4
      refine gos ?_
      refine AC.step tab ?_
      refine gos ?_
      refine CallW.wrt (i := 1) (j := 2) (by decide) rfl rfl (WText_does v1 rv x.name _ (by omega) (by simp only [List.length_append]; omega)) rfl (fun ra => ?_)
      refine gos ?_
      refine AC.go tab ?_
      refine gos ?_
      refine CallW.wrt (i := 1) (j := 2) (by decide) rfl rfl (layTexts_does v1 ra x.texts _ c1 (by simp only [List.length_append]; omega)) rfl (fun rd => ?_)
      refine gos ?_
      refine AC.go tab ?_
      refine gos ?_
      exact ⟨f - 1, _, 3, by omega, fgts, i + 1, rd, by omega, by omega, rfl, by rw [htk]; simp only [untW, List.append_assoc]; rfl⟩
    · refine CmpW.N ?_
      refine gos ?_
      refine AC.go tab ?_
      refine gos ?_
      have : i = t.units.length := by omega
      subst this
      exact ⟨_, 3, fgts, rv, rfl, by rw [List.take_length]; simp only [listW, List.append_assoc]; rfl⟩
  rintro e h ⟨rv6, rfl, rfl⟩
  refine AC.step tab ?_
  refine gos ?_
  refine CallW.wrt (i := 1) (j := 2) (by decide) rfl rfl (layTexts_does v1 rv6 t.munit _ b4 (by simp only [List.length_append]; omega)) rfl (fun rv7 => ?_)
  refine gos ?_
  refine AC.go tab ?_
  refine gos ?_
  refine CallW.wrt (i := 1) (j := 2) (by decide) rfl rfl ((WString_does v1 rv7 _ (by simp only [List.length_append]; omega)).mono (fun ae O h => ⟨h.1, rv7, h.2⟩)) rfl (fun rv8 => ?_)
  refine gos ?_
  refine RetW.plain (by simp) ?_
  rw [hS3, enc4, enc5]
  simp only [ren, List.append_assoc]
end Go.Proofs.YtjjppmbojcgdgaaGreatDoor
