/- Arguments, from what they read as, to values without addresses. -/
import Derived.Test.YtjjppmbojcgdgaaGreatDoorJ12
import Derived.Test.YtjjppmbojcgdgaaGreatDoorJ02
import Derived.Test.YtjjppmbojcgdgaaGreatDoorAbsC
import Derived.Test.YtjjppmbojcgdgaaGreatDoorJ09
import Derived.Test.YtjjppmbojcgdgaaGreatDoorJ01
import Derived.ChangeArms
import Derived.OpenShut
import Derived.Carry
import Derived.WideShapes
set_option linter.unusedVariables false
set_option linter.unusedSimpArgs false
set_option maxRecDepth 100000
set_option maxHeartbeats 4000000

namespace Go.Proofs.YtjjppmbojcgdgaaGreatDoor
open Go Go.Abs
def wroF (s : List UInt8) : Int := wroL ⟨⟨s⟩⟩ s.length 0
theorem wrong_does (m : Int) (s : List UInt8) (hs : s.length < 4294967296) : Does Tryz.prog (GL m) 192 [.str s] [] fun ae _ => ae = .ret (.int .i64 (wroF s)) :=
  Does.of_calls (v := .int .i64 (wroF s)) Tryz.func192 rfl rfl (fun C => by simp [RepF]) fun C cargs hg hr => by
    rw [rep_str1 hr]
    obtain ⟨_, h1, _⟩ := hg.glob (0, firstCells) (by simp [GL])
    obtain ⟨_, h2, _⟩ := hg.glob (1, acceptCells) (by simp [GL])
    exact wrong_walk ⟨⟨s⟩⟩ C.w hs (tabs hg) h1.1 h2.1
section
attribute [local irreducible] DrawW CallW RetW AC Does CmpW BD CloW
set_option maxRecDepth 100000
def noPat : AV := .agg (patCells ⟨.nils, .nils, .nils, .nils⟩ false Num.zero)
def parF (s : List UInt8) : AV × Int × Int :=
  if 100 < s.length then (noPat, 2, 0) else if 0 ≤ wroF s then (noPat, 1, wroF s) else match patF s with
    | .ok v => (encV v, 0, 0)
    | .error b => (noPat, 1, b)
def parV (r : AV × Int × Int) : AV := .tuple [r.1, .int .i64 r.2.1, .int .i64 r.2.2]
theorem Parse_does {m : Int} (s : List UInt8) (hs : s.length < 100000) : Does Tryz.prog (GL m) 117 [.str s] [] fun ae _ => ae = .ret (parV (parF s)) := by
  refine Does.ofBD Tryz.func117 rfl rfl ?_
  refine BD.seq tab ?_
  refine gos ?_
  intro v0
  refine gos ?_
  intro v1
  refine gos ?_
  intro v2
  refine gos ?_
  refine BD.seq tab ?_
  refine gos ?_
  by_cases h1 : 100 < s.length
  · refine CmpW.t (by simp; omega) ?_
    refine gos ?_
    refine RetW.plain (by simp) ?_
    simp only [parF, if_pos h1]
    rfl
  · refine CmpW.f (by simp; omega) ?_
    refine gos ?_
    refine BD.seq tab ?_
    refine gos ?_
    refine CallW.pure (wrong_does m s (by omega)) rfl rfl ?_
    refine gos ?_
    by_cases h2 : 0 ≤ wroF s
    · refine CmpW.t (by simpa using h2) ?_
      refine gos ?_
      refine RetW.plain (by simp) ?_
      simp only [parF, if_neg h1, if_pos h2]
      rfl
    · refine CmpW.f (by simpa using h2) ?_
      refine gos ?_
      refine BD.defer tab (d := 16) Tryz.func193 rfl rfl rfl rfl rfl rfl rfl rfl (by simp) ?_
      refine gos ?_
      intro v3
      refine gos ?_
      refine CallW.ofN [3] (as' := [.ptr 0 v3 0 0]) (pattern_does s v3 hs) ?_ rfl rfl ?_
      · exact hands_closed (O := [rdr v3 s 0]) (by simp) rfl (fun k j hk => by
          match k, hk with
          | 0, hk => have : 3 = j := by simpa using hk
                     subst this; rfl
          | k + 1, hk => simp at hk) (by simp [rdr, closedLL, closedL, closed])
      intro ae O hA hl
      obtain ⟨o, rfl⟩ : ∃ o, O = [o] := by
        match O, hl with
        | [o], _ => exact ⟨o, rfl⟩
      have hp : parF s = match patF s with
        | .ok v => (encV v, 0, 0)
        | .error b => (noPat, 1, (b : Int)) := by simp only [parF, if_neg h1, if_neg h2]
      cases hE : patF s with
      | error b =>
        rw [hE] at hA hp
        subst hA
        simp only [putR, ren, renL]
        refine CloW.of tab Tryz.func193 rfl rfl rfl (fun _ => rfl) rfl rfl rfl ?_
        refine gos ?_
        intro v4
        refine gos ?_
        refine DrawW.plan (.take 0 (.take 1 (.fork (.cons 2 (.take 3 (.take 4 (.take 5 .done))) (.cons 3 (.fork (.cons 2 (.take 4 (.take 5 .done)) (.cons 4 (.take 2 (.take 5 .done)) .nil))) .nil))))) (by kernel_rfl) (by kernel_rfl) ?_
        refine gos ?_
        refine And.intro ?_ (And.intro ?_ trivial)
        · refine gos ?_
          refine RetW.plain (by simp) ?_
          rw [hp]
          rfl
        · refine gos ?_
          refine And.intro ?_ (And.intro ?_ trivial)
          all_goals
            refine gos ?_
            refine RetW.plain (by simp) ?_
            rw [hp]
            rfl
      | ok v =>
        rw [hE] at hA hp
        subst hA
        obtain ⟨p, q, p', q', two, N⟩ := v
        cases two
        all_goals
          simp only [putR]
          refine gos ?_
          refine CloW.of tab Tryz.func193 rfl rfl rfl (fun _ => rfl) rfl rfl rfl ?_
          refine gos ?_
          intro v4
          refine gos ?_
          refine RetW.plain (by simp) ?_
          rw [hp]
          rfl
end
end Go.Proofs.YtjjppmbojcgdgaaGreatDoor

namespace Go.Proofs.YtjjppmbojcgdgaaGreatDoor
open Go Go.Abs
attribute [local irreducible] DrawW CallW RetW AC Does CmpW
variable {G : Globs}
def cro (ver : Nat) (s : List UInt8) (a : Nat) (bad : Int) : AObj := ⟨ver, 312, 3, [[.str s, .int .i64 a, .int .i64 bad]]⟩
def bd (a : Nat) (bad : Int) : Int := if bad < 0 then a else bad
theorem cfail_does (s : List UInt8) (a : Nat) (bad : Int) (ver : Nat) : Does Tryz.prog G 250 [.ptr 0 ver 0 0] [some (cro ver s a bad)] fun ae O => ae = .ret (.tuple []) ∧ O = [some (cro ver s a (bd a bad))] := by
  refine Does.body tab Tryz.func250 rfl rfl ?_
  refine gos ?_
  by_cases h : bad < 0
  · refine CmpW.T ?_
    refine gos ?_
    refine RetW.plain (by simp) ?_
    simp only [bd, if_pos h]
    (first | exact ⟨rfl, rfl⟩ | exact ⟨trivial, rfl⟩ | exact ⟨rfl, trivial⟩ | rfl | trivial | done)
  · refine CmpW.N ?_
    refine gos ?_
    refine RetW.plain (by simp) ?_
    simp only [bd, if_neg h]
    (first | exact ⟨rfl, rfl⟩ | exact ⟨trivial, rfl⟩ | exact ⟨rfl, trivial⟩ | rfl | trivial | done)
theorem cpeek_does (s : List UInt8) (a : Nat) (bad : Int) (ha : a ≤ s.length) (hs : s.length < 100000) (ver : Nat) :
    Does Tryz.prog G 252 [.ptr 0 ver 0 0] [some (cro ver s a bad)] fun ae O => ae = .ret (.int .u8 (pk s a)) ∧ O = [some (cro ver s (bl s a) bad)] := by
  refine Does.bodyA tab Tryz.func252 rfl rfl ?_
  refine AC.step tab ?_
  refine gos ?_
  refine AC.cutF tab (fun e h => e = [.ptr 0 ver 0 0] ++ List.replicate 50 .any ∧ h = [some (cro ver s (bl s a) bad)]) ?_ ?_
  · refine AC.loopC tab (fun f e h => ∃ k, s.length < f + (a + k) ∧ a + k ≤ s.length ∧ k ≤ tw s (fun c => c == 32) a ∧ e = [.ptr 0 ver 0 0] ++ List.replicate 50 .any ∧ h = [some (cro ver s (a + k) bad)]) (s.length + 1) ⟨_, fgts, 0, by omega, by omega, by omega, rfl, rfl⟩ ?_
    rintro f e h ⟨k, hf, hk, hkt, rfl, rfl⟩
    refine gos ?_
    refine DrawW.L ?_
    refine gos ?_
    by_cases hlt : a + k < s.length
    · obtain ⟨c, hc⟩ : ∃ c, s[a + k]? = some c := ⟨_, List.getElem?_eq_getElem hlt⟩
      refine CmpW.t (by simp; omega) ?_
      refine gos ?_
      refine And.intro (by omega) ⟨c, hc, ?_⟩
      refine gos ?_
      by_cases h32 : c = 32
      · subst h32
        refine CmpW.t (by simp) ?_
        refine gos ?_
        refine ⟨f - 1, _, 1, by omega, fgts, k + 1, by omega, by omega, tw_go hkt hc rfl, rfl, rfl⟩
      · refine CmpW.f (by simp; exact fun h => h32 (u8_of h rfl)) ?_
        refine gos ?_
        have : bl s a = a + k := by unfold bl; rw [← tw_stop hkt fun d hd => by rw [hc] at hd; cases hd; simpa using h32]
        rw [this]
        exact ⟨_, 1, fgts, rfl, rfl⟩
    · refine CmpW.f (by simp; omega) ?_
      refine gos ?_
      have : bl s a = a + k := by unfold bl; rw [← tw_stop hkt fun d hd => by rw [List.getElem?_eq_none (by omega)] at hd; cases hd]
      rw [this]
      exact ⟨_, 1, fgts, rfl, rfl⟩
  rintro e h ⟨rfl, rfl⟩
  refine AC.go tab ?_
  refine gos ?_
  refine DrawW.L ?_
  refine gos ?_
  have hb := bl_le ha
  by_cases hlt : bl s a < s.length
  · obtain ⟨c, hc⟩ : ∃ c, s[bl s a]? = some c := ⟨_, List.getElem?_eq_getElem hlt⟩
    refine CmpW.f (by simp; omega) ?_
    refine gos ?_
    refine DrawW.L ?_
    refine gos ?_
    refine And.intro (by omega) ⟨c, hc, ?_⟩
    refine gos ?_
    refine RetW.plain (by simp) ?_
    simp only [pk, hc]
    (first | exact ⟨rfl, rfl⟩ | exact ⟨trivial, rfl⟩ | exact ⟨rfl, trivial⟩ | rfl | trivial | done)
  · refine CmpW.t (by simp; omega) ?_
    refine gos ?_
    refine RetW.plain (by simp) ?_
    simp only [pk, List.getElem?_eq_none (show s.length ≤ bl s a by omega)]
    (first | exact ⟨rfl, rfl⟩ | exact ⟨trivial, rfl⟩ | exact ⟨rfl, trivial⟩ | rfl | trivial | done)
def nx (s : List UInt8) (a : Nat) (b : UInt8) : Bool := decide (s[bl s a]? = some b)
def nxE (s : List UInt8) (a : Nat) (b : UInt8) : Nat := if nx s a b then bl s a + 1 else bl s a
theorem nxE_le {s : List UInt8} {a : Nat} (b : UInt8) (ha : a ≤ s.length) : a ≤ nxE s a b ∧ nxE s a b ≤ s.length := by
  have hb := bl_le ha
  unfold nxE nx
  split
  · rename_i h
    have := (List.getElem?_eq_some_iff.1 (of_decide_eq_true h)).1
    omega
  · omega
theorem pk_nx {s : List UInt8} {a : Nat} {b : UInt8} (hb : b ≠ 0) : (pk s a = b.toNat) ↔ nx s a b = true := by
  unfold pk nx
  cases h : s[bl s a]? with
  | none =>
    simp only [decide_eq_true_eq, reduceCtorEq, iff_false]
    intro e
    exact hb (UInt8.toNat_inj.1 (by simpa using e.symm))
  | some c =>
    simp only [decide_eq_true_eq, Option.some.injEq]
    exact UInt8.toNat_inj
theorem ctake_does (s : List UInt8) (a : Nat) (bad : Int) (b : UInt8) (hb0 : b ≠ 0) (ha : a ≤ s.length) (hs : s.length < 100000) (ver : Nat) :
    Does Tryz.prog G 249 [.ptr 0 ver 0 0, .int .u8 b.toNat] [some (cro ver s a bad)] fun ae O => ae = .ret (.bool (nx s a b)) ∧ O = [some (cro ver s (nxE s a b) bad)] := by
  refine Does.body tab Tryz.func249 rfl rfl ?_
  refine gos ?_
  have hb := bl_le ha
  have hp := pk_nx (s := s) (a := a) hb0
  refine DrawW.P (.take 0 (.take 2 (.take 1 (.take 3 (.take 4 (.take 5 (.take 6 (.take 7 (.take 8 (.take 9 (.take 10 (.take 11 (.take 12 (.take 13 (.take 14 (.take 15 .done)))))))))))))))) ?_
  refine gos ?_
  refine CallW.meth 0 (cpeek_does s a bad ha hs ver) rfl rfl rfl rfl rfl rfl ?_
  refine gos ?_
  cases hn : nx s a b with
  | false =>
    have h1 : ¬ pk s a = b.toNat := fun h => by rw [hp.1 h] at hn; cases hn
    refine CmpW.t (by simp; omega) ?_
    refine gos ?_
    refine RetW.plain (by simp) ?_
    simp only [nxE, hn, Bool.false_eq_true, if_false]
    (first | exact ⟨rfl, rfl⟩ | exact ⟨trivial, rfl⟩ | exact ⟨rfl, trivial⟩ | rfl | trivial | done)
  | true =>
    have h1 : pk s a = b.toNat := hp.2 hn
    have hlt : bl s a < s.length := (List.getElem?_eq_some_iff.1 (of_decide_eq_true hn)).1
    refine CmpW.f (by simp; omega) ?_
    refine gos ?_
    refine CmpW.f (by simp; omega) ?_
    refine gos ?_
    refine RetW.plain (by simp) ?_
    simp only [nxE, hn, if_true]
    (first | exact ⟨rfl, rfl⟩ | exact ⟨trivial, rfl⟩ | exact ⟨rfl, trivial⟩ | rfl | trivial | done)
end Go.Proofs.YtjjppmbojcgdgaaGreatDoor

namespace Go.Opn
open Go Go.Abs
theorem RepFL.append {C : Ctx} : ∀ {xs ys : List AV} {us vs : List Value}, RepFL C xs us → RepFL C ys vs → RepFL C (xs ++ ys) (us ++ vs)
  | [], ys, us, vs, h, k => by simp only [RepFL] at h; subst h; simpa using k
  | a :: xs, ys, us, vs, h, k => by
    simp only [RepFL] at h
    obtain ⟨x, r, rfl, h1, h2⟩ := h
    simp only [List.cons_append, RepFL]
    exact ⟨x, _, rfl, h1, RepFL.append h2 k⟩
theorem RepFLL.snoc {C : Ctx} : ∀ {es : List (List AV)} {e : List AV} {us vs : List Value}, RepFLL C es us → RepFL C e vs → RepFLL C (es ++ [e]) (us ++ vs)
  | [], e, us, vs, h, k => by simp only [RepFLL] at h; subst h; simp only [List.nil_append, RepFLL]; exact ⟨vs, [], by simp, k, rfl⟩
  | a :: es, e, us, vs, h, k => by
    simp only [RepFLL] at h
    obtain ⟨p, r, rfl, h1, h2⟩ := h
    simp only [List.cons_append, RepFLL]
    exact ⟨p, _, by simp, h1, RepFLL.snoc h2 k⟩
def Sized {H : Type} (P : Program) (t : TypeId) (d : DataW H) : Prop := ∀ w ∈ d.weights P t, w ≤ reachBytes
theorem weightsAll_mem {H : Type} {P : Program} {e : TypeId} {d : DataW H} {w : Nat} : ∀ {ds : List (DataW H)}, d ∈ ds → w ∈ d.weights P e → w ∈ DataW.weightsAll P e ds
  | a :: r, h, hw => by
    simp only [DataW.weightsAll, List.mem_append]
    rcases List.mem_cons.1 h with rfl | h
    · exact .inl hw
    · exact .inr (weightsAll_mem h hw)
theorem weightsEach_mem {H : Type} {P : Program} {t : TypeId} {d : DataW H} {w : Nat} : ∀ {ts : List TypeId} {ds : List (DataW H)} {i : Nat}, ts[i]? = some t → ds[i]? = some d → w ∈ d.weights P t → w ∈ DataW.weightsEach P ts ds
  | a :: r, b :: q, i, h, k, hw => by
    simp only [DataW.weightsEach, List.mem_append]
    rcases i with _ | i
    · simp only [List.getElem?_cons_zero, Option.some.injEq] at h k
      subst h; subst k
      exact .inl hw
    · simp only [List.getElem?_cons_succ] at h k
      exact .inr (weightsEach_mem h k hw)
def Opnd (P : Program) (t : TypeId) {X : Type} (n : Nat) (f : X → List AV) (wf : X → Prop) : Prop :=
  P.cellsOf t = n ∧ ∀ (H : Type) (enc : TypeId × Value → H) (W : World) (fuel : Nat) (cs : List Value) (x : DataW H × List MemPlace),
    DataW.trod enc P W 0 (fun _ => true) true fuel t cs = some x → Sized P t x.1 → ∃ a : X, wf a ∧ (f a).length = n ∧ RepFL (Ctx.top W) (f a) cs
section
variable {P : Program} {t e : TypeId} {X Y : Type} {n m : Nat} {f : X → List AV} {wf : X → Prop}
theorem Opnd.int {k : IntKind} (ht : P.underlying t = some (.int k)) (hc : P.cellsOf t = 1) : Opnd P t 1 (fun z : Int => [.int k z]) (fun z => (Lit.int k z).wf = true) :=
  ⟨hc, fun H enc W fuel cs x h _ => by
    obtain ⟨z, rfl, _, hw⟩ := DataW.trod_int ht h
    exact ⟨z, hw, rfl, by simp [RepFL, RepF]⟩⟩
theorem Opnd.bool (ht : P.underlying t = some .bool) (hc : P.cellsOf t = 1) : Opnd P t 1 (fun z : Bool => [.bool z]) (fun _ => True) :=
  ⟨hc, fun H enc W fuel cs x h _ => by
    obtain ⟨z, rfl, _⟩ := DataW.trod_bool ht h
    exact ⟨z, trivial, rfl, by simp [RepFL, RepF]⟩⟩
theorem Opnd.str (ht : P.underlying t = some .string) (hc : P.cellsOf t = 1) : Opnd P t 1 (fun s : List UInt8 => [.str s]) (fun s => s.length ≤ reachBytes) :=
  ⟨hc, fun H enc W fuel cs x h hz => by
    obtain ⟨⟨⟨s⟩⟩, rfl, rfl, hw⟩ := DataW.trod_string ht h
    exact ⟨s, hz _ (by simp [DataW.weights]), rfl, by simp [RepFL, RepF]⟩⟩
theorem Opnd.map {f' : Y → List AV} {wf' : Y → Prop} (h : Opnd P t n f wf) (g : X → Y) (hf : ∀ x, f' (g x) = f x) (hw : ∀ x, wf x → wf' (g x)) : Opnd P t n f' wf' :=
  ⟨h.1, fun H enc W fuel cs x h1 hz => by
    obtain ⟨a, h2, h3, h4⟩ := h.2 H enc W fuel cs x h1 hz
    exact ⟨g a, hw a h2, by rw [hf]; exact h3, by rw [hf]; exact h4⟩⟩
def OpndFs (P : Program) (fs : List Field) (o : Nat) {X : Type} (n : Nat) (f : X → List AV) (wf : X → Prop) : Prop :=
  ∀ (H : Type) (enc : TypeId × Value → H) (W : World) (fuel : Nat) (cs : List Value), o + n ≤ cs.length →
    (∀ fl ∈ fs, ∃ y, DataW.trod enc P W 0 (fun _ => true) true fuel fl.type ((cs.drop fl.offset).take (P.cellsOf fl.type)) = some y ∧ Sized P fl.type y.1) →
    ∃ a : X, wf a ∧ (f a).length = n ∧ RepFL (Ctx.top W) (f a) ((cs.drop o).take n)
theorem OpndFs.nil (o : Nat) : OpndFs P [] o 0 (fun _ : Unit => []) (fun _ => True) := fun _ _ _ _ _ _ _ => ⟨(), trivial, rfl, by simp [RepFL]⟩
theorem OpndFs.cons {fl : Field} {fs : List Field} {o k : Nat} {g : Y → List AV} {wg : Y → Prop} (h : Opnd P fl.type k f wf) (ho : fl.offset = o) (r : OpndFs P fs (o + k) n g wg) :
    OpndFs P (fl :: fs) o (k + n) (fun x : X × Y => f x.1 ++ g x.2) (fun x => wf x.1 ∧ wg x.2) := fun H enc W fuel cs hl hall => by
  obtain ⟨y, hy, hz⟩ := hall fl (by simp)
  rw [ho, h.1] at hy
  obtain ⟨a, h1, h2, h3⟩ := h.2 H enc W fuel _ y hy hz
  obtain ⟨b, k1, k2, k3⟩ := r H enc W fuel cs (by omega) fun x hx => hall x (by simp [hx])
  refine ⟨(a, b), ⟨h1, k1⟩, by simp [h2, k2], ?_⟩
  have e1 : (cs.drop o).take (k + n) = (cs.drop o).take k ++ (cs.drop (o + k)).take n := by
    rw [List.take_add, List.drop_drop]
  rw [e1]
  exact RepFL.append h3 k3
theorem Opnd.struct {fs : Array Field} (ht : P.underlying t = some (.struct fs)) (hc : P.cellsOf t = n) (h : OpndFs P fs.toList 0 n f wf) : Opnd P t n f wf :=
  ⟨hc, fun H enc W fuel cs x h1 hz => by
    obtain ⟨xs, m, rfl, rfl, hl, hn, hfs⟩ := DataW.trod_struct ht h1
    obtain ⟨a, k1, k2, k3⟩ := h H enc W m cs (by omega) fun fl hfl => by
      obtain ⟨i, hi, rfl⟩ := List.getElem_of_mem hfl
      have := hfs i fs.toList[i] (by simp)
      rw [this]
      have hi2 : i < xs.length := by rw [hn]; simpa using hi
      refine ⟨xs[i], List.getElem?_eq_getElem _, fun w hw => hz w ?_⟩
      simp only [DataW.weights, ht]
      exact weightsEach_mem (i := i) (by rw [List.getElem?_map, List.getElem?_eq_getElem hi]; rfl) (by simp [hi2]) hw
    refine ⟨a, k1, k2, ?_⟩
    rw [List.drop_zero, List.take_of_length_le (by omega)] at k3
    exact k3⟩
theorem Opnd.array (ht : P.underlying t = some (.array m e)) (hc : P.cellsOf t = m * n) (he : Opnd P e n f wf) :
    Opnd P t (m * n) (fun xs : List X => xs.flatMap f) (fun xs => xs.length = m ∧ ∀ x ∈ xs, wf x) :=
  ⟨hc, fun H enc W fuel cs x h1 hz => by
    obtain ⟨xs, q, rfl, rfl, hl, hn, hfs⟩ := DataW.trod_array ht h1
    have key : ∀ k, k ≤ m → ∃ ys : List X, (ys.length = k ∧ ∀ y ∈ ys, wf y) ∧ (ys.flatMap f).length = k * n ∧ RepFL (Ctx.top W) (ys.flatMap f) (cs.take (k * n)) := by
      intro k
      induction k with
      | zero => intro _; exact ⟨[], ⟨rfl, fun y hy => by cases hy⟩, by simp, by simp [RepFL]⟩
      | succ k ih =>
        intro hk
        obtain ⟨ys, ⟨a1, a2⟩, a3, a4⟩ := ih (by omega)
        have h2 := hfs k (by omega)
        rw [List.getElem?_eq_getElem (by omega), he.1] at h2
        obtain ⟨y, b1, b2, b3⟩ := he.2 H enc W q _ _ h2 fun w hw => hz w (by
          simp only [DataW.weights, ht]
          exact weightsAll_mem (List.mem_map_of_mem (List.getElem_mem _)) hw)
        refine ⟨ys ++ [y], ⟨by simp [a1], fun z hz => ?_⟩, by simp [a3, b2, Nat.add_mul], ?_⟩
        · rcases List.mem_append.1 hz with hz | hz
          · exact a2 z hz
          · rw [List.mem_singleton.1 hz]; exact b1
        · rw [Nat.add_mul, Nat.one_mul, List.take_add]
          simp only [List.flatMap_append, List.flatMap_cons, List.flatMap_nil, List.append_nil]
          exact RepFL.append a4 b3
    obtain ⟨ys, a1, a2, a3⟩ := key m (Nat.le_refl m)
    refine ⟨ys, a1, a2, ?_⟩
    rw [List.take_of_length_le (by omega)] at a3
    exact a3⟩
theorem cell_spot {W : World} {a : Addr} {v : Value} (h : W.cell? a = some v) : a.spot = none ∧ a.block < W.heap.size := by
  unfold World.cell? at h
  split at h
  · rename_i c t fr hb
    split at h
    · cases h
    · rename_i hs
      exact ⟨by simpa using hs, (Array.getElem?_eq_some_iff.1 hb).1⟩
  · cases h
theorem addr_add_add (a : Addr) (i j : Nat) : (a.add i).add j = a.add (i + j) := by
  unfold Addr.add
  by_cases hi : i = 0
  · subst hi; simp
  · by_cases hj : j = 0
    · subst hj; simp [hi]
    · simp [hi, hj, Nat.add_assoc]
theorem Opnd.slice (ht : P.underlying t = some (.slice e)) (hc : P.cellsOf t = 1) (hn : 0 < n) (hb1 : 0 < P.bytesOf e) (he : Opnd P e n f wf) :
    Opnd P t 1 (fun xs : List X => [.fsl (xs.map f)]) (fun xs => xs.length ≤ reachBytes ∧ ∀ x ∈ xs, wf x) :=
  ⟨hc, fun H enc W fuel cs x h1 hz => by
    rcases DataW.trod_slice ht h1 with ⟨rfl, rfl⟩ | ⟨a, len, cap, elems, rest, q, rfl, rfl, rfl, hb, hlc, hcm, hel, hget, _, _⟩
    · refine ⟨[], ⟨by simp, fun y hy => by cases hy⟩, rfl, ?_⟩
      simp only [RepFL, RepF]
      exact ⟨_, [], rfl, ⟨none, 0, by simp, by simp, .inl ⟨rfl, fun _ => rfl⟩⟩, rfl⟩
    · have key : ∀ k, k ≤ len → ∃ (ys : List X) (us : List Value), (ys.length = k ∧ ∀ y ∈ ys, wf y) ∧ us.length = k * n ∧ RepFLL (Ctx.top W) (ys.map f) us ∧ ∀ j u, us[j]? = some u → W.cell? (a.add j) = some u := by
        intro k
        induction k with
        | zero => intro _; exact ⟨[], [], ⟨rfl, fun y hy => by cases hy⟩, by simp, by simp [RepFLL], fun j u h => by simp at h⟩
        | succ k ih =>
          intro hk
          obtain ⟨ys, us, ⟨a1, a2⟩, a3, a4, a5⟩ := ih (by omega)
          have h2 := hget k (by omega)
          rw [List.getElem?_eq_getElem (by omega), Option.bind_eq_some_iff] at h2
          obtain ⟨cs', h3, h4⟩ := h2
          rw [he.1] at h3
          obtain ⟨_, c2, c3⟩ := World.cells?_some h3
          obtain ⟨y, b1, b2, b3⟩ := he.2 H enc W q _ _ h4 fun w hw => hz w (by
            simp only [DataW.weights, ht]
            refine List.mem_cons_of_mem _ (List.mem_append_left _ ?_)
            exact weightsAll_mem (List.mem_map_of_mem (List.getElem_mem _)) hw)
          refine ⟨ys ++ [y], us ++ cs', ⟨by simp [a1], fun z hz => ?_⟩, by simp [a3, c2, Nat.add_mul], ?_, fun j u hj => ?_⟩
          · rcases List.mem_append.1 hz with hz | hz
            · exact a2 z hz
            · rw [List.mem_singleton.1 hz]; exact b1
          · rw [List.map_append]; exact RepFLL.snoc a4 b3
          · by_cases hlt : j < us.length
            · rw [List.getElem?_append_left hlt] at hj; exact a5 j u hj
            · rw [List.getElem?_append_right (by omega)] at hj
              have hlt2 := (List.getElem?_eq_some_iff.1 hj).1
              have := c3 (j - us.length) (by omega)
              rw [addr_add_add, show k * n + (j - us.length) = j by omega] at this
              rw [this]; exact hj
      obtain ⟨ys, us, ⟨a1, a2⟩, a3, a4, a5⟩ := key len (Nat.le_refl len)
      have hr : (elems.length + rest.length) * P.bytesOf e ≤ reachBytes := hz _ (by
        simp only [DataW.weights, ht, List.length_map]
        exact List.mem_cons_self)
      have hr2 := Nat.le_mul_of_pos_right (elems.length + rest.length) hb1
      refine ⟨ys, ⟨by rw [a1]; omega, a2⟩, rfl, ?_⟩
      simp only [RepFL, RepF]
      refine ⟨_, [], rfl, ⟨some a, cap, by simp [a1, hlc], by simp [a1], ?_⟩, rfl⟩
      by_cases h0 : len = 0
      · left
        subst h0
        exact ⟨by rw [List.map_eq_nil_iff]; exact List.eq_nil_of_length_eq_zero a1, fun h => by cases h⟩
      · right
        have hpos : 0 < us.length := by rw [a3]; exact Nat.mul_pos (by omega) hn
        have hz := a5 0 us[0] (List.getElem?_eq_getElem hpos)
        have e0 : a.add 0 = a := by simp [Addr.add]
        rw [e0] at hz
        obtain ⟨s1, s2⟩ := cell_spot hz
        obtain ⟨b, off, spot⟩ := a
        simp only at s1 s2
        subst s1
        refine ⟨b, off, us, rfl, top_fz s2, fun j u hj => ?_, a4⟩
        have := a5 j u hj
        rw [Addr.add_lit] at this
        exact this⟩
theorem Opnd.agg (h : Opnd P t n f wf) {H : Type} {enc : TypeId × Value → H} {W : World} {us : Array Value} {d : DataW H} {ps : List MemPlace} (hd : DataW.Trod enc P W 0 (fun _ => true) true t (.agg us) d ps) (hz : Sized P t d) :
    ∃ a, wf a ∧ RepV (Ctx.top W) (.agg (f a)) (.agg us) := by
  obtain ⟨fuel, hf⟩ := hd
  obtain ⟨a, h1, _, h2⟩ := h.2 H enc W fuel _ _ hf hz
  refine ⟨a, h1, ?_⟩
  simp only [RepV]
  exact ⟨us, rfl, RepFL.repL _ _ h2⟩
theorem Opnd.one {g : X → AV} (h : Opnd P t n (fun x => [g x]) wf) {H : Type} {enc : TypeId × Value → H} {W : World} {v : Value} {d : DataW H} {ps : List MemPlace} (hv : v.cells.toList = [v]) (hd : DataW.Trod enc P W 0 (fun _ => true) true t v d ps) (hz : Sized P t d) :
    ∃ a, wf a ∧ RepV (Ctx.top W) (g a) v := by
  obtain ⟨fuel, hf⟩ := hd
  obtain ⟨a, h1, _, h2⟩ := h.2 H enc W fuel _ _ hf hz
  rw [hv] at h2
  simp only [RepFL] at h2
  obtain ⟨u, r, h3, h4, rfl⟩ := h2
  simp only [List.cons.injEq] at h3
  obtain ⟨rfl, _⟩ := h3
  exact ⟨a, h1, RepF.repV _ _ h4⟩
end
end Go.Opn
