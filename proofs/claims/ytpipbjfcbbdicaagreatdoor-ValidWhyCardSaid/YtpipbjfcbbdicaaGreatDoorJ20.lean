/- Proved: for every table t, florinlaw16.ValidWhy(t) returns true, and its argument reads behind the call as it read before. Conditions: none but the row's own (package variables read as the program's text sets them, which the card ties). -/
import Derived.Test.YtpipbjfcbbdicaaGreatDoorJ01
import Derived.ChangeArms
import Derived.OpenShut
import Derived.Carry
import Derived.WideShapes
import Derived.Test.YtpipbjfcbbdicaaGreatDoorJ16
import Derived.Test.YtpipbjfcbbdicaaGreatDoorRows
import Derived.ProofKit
import Derived.Test.YtpipbjfcbbdicaaGreatDoorAbsC
import Derived.Test.YtpipbjfcbbdicaaGreatDoorJ19
import Derived.Lib.LaidU8
import Derived.Lib.LaidIn
import Derived.Shelf.Vars
import Derived.ChangeOld
import Derived.Lay
import Derived.Test.YtpipbjfcbbdicaaGreatDoorTie
import Derived.Test.YtpipbjfcbbdicaaGreatDoorCards
import Derived.SevenTiedAt
set_option linter.unusedVariables false
set_option linter.unusedSimpArgs false
set_option maxRecDepth 100000
set_option maxHeartbeats 4000000

namespace Go.Opn
open Go Go.Abs

theorem RepFL.append {C : Ctx} : ∀ {xs ys : List AV} {us vs : List Value}, RepFL C xs us → RepFL C ys vs → RepFL C (xs ++ ys) (us ++ vs)
  | [], ys, us, vs, h, k => by simp only [RepFL] at h; subst h; simpa using k
  | a :: xs, ys, us, vs, h, k => by
    simp only [RepFL] at h
    obtain ⟨x, r, rfl, h1, h2⟩ := h
    simp only [List.cons_append, RepFL]
    exact ⟨x, _, rfl, h1, RepFL.append h2 k⟩
theorem RepFLL.snoc {C : Ctx} : ∀ {es : List (List AV)} {e : List AV} {us vs : List Value}, RepFLL C es us → RepFL C e vs → RepFLL C (es ++ [e]) (us ++ vs)
  | [], e, us, vs, h, k => by simp only [RepFLL] at h; subst h; simp only [List.nil_append, RepFLL]; exact ⟨vs, [], by simp, k, rfl⟩
  | a :: es, e, us, vs, h, k => by
    simp only [RepFLL] at h
    obtain ⟨p, r, rfl, h1, h2⟩ := h
    simp only [List.cons_append, RepFLL]
    exact ⟨p, _, by simp, h1, RepFLL.snoc h2 k⟩

/-- Each string and slice of what was read lies within a process's reach. -/
def Sized {H : Type} (P : Program) (t : TypeId) (d : DataW H) : Prop := ∀ w ∈ d.weights P t, w ≤ reachBytes
theorem weightsAll_mem {H : Type} {P : Program} {e : TypeId} {d : DataW H} {w : Nat} : ∀ {ds : List (DataW H)}, d ∈ ds → w ∈ d.weights P e → w ∈ DataW.weightsAll P e ds
  | a :: r, h, hw => by
    simp only [DataW.weightsAll, List.mem_append]
    rcases List.mem_cons.1 h with rfl | h
    · exact .inl hw
    · exact .inr (weightsAll_mem h hw)
theorem weightsEach_mem {H : Type} {P : Program} {t : TypeId} {d : DataW H} {w : Nat} : ∀ {ts : List TypeId} {ds : List (DataW H)} {i : Nat}, ts[i]? = some t → ds[i]? = some d → w ∈ d.weights P t → w ∈ DataW.weightsEach P ts ds
  | a :: r, b :: q, i, h, k, hw => by
    simp only [DataW.weightsEach, List.mem_append]
    rcases i with _ | i
    · simp only [List.getElem?_cons_zero, Option.some.injEq] at h k
      subst h; subst k
      exact .inl hw
    · simp only [List.getElem?_cons_succ] at h k
      exact .inr (weightsEach_mem h k hw)
theorem Sized.of_each {H : Type} {P : Program} {ts : List TypeId} {ds : List (DataW H)} (h : (DataW.weightsEach P ts ds).all (· ≤ reachBytes) = true) {i : Nat} {t : TypeId} {d : DataW H} (ht : ts[i]? = some t) (hd : ds[i]? = some d) : Sized P t d := fun w hw => by
  have := List.all_eq_true.1 h w (weightsEach_mem ht hd hw)
  simpa using this

/-- What a type's values read as. -/
def Opnd (P : Program) (t : TypeId) {X : Type} (n : Nat) (f : X → List AV) (wf : X → Prop) : Prop :=
  P.cellsOf t = n ∧ ∀ (H : Type) (enc : TypeId × Value → H) (W : World) (fuel : Nat) (cs : List Value) (x : DataW H × List MemPlace),
    DataW.trod enc P W 0 (fun _ => true) true fuel t cs = some x → Sized P t x.1 → ∃ a : X, wf a ∧ (f a).length = n ∧ RepFL (Ctx.top W) (f a) cs

section
variable {P : Program} {t e : TypeId} {X Y : Type} {n m : Nat} {f : X → List AV} {wf : X → Prop}

theorem Opnd.int {k : IntKind} (ht : P.underlying t = some (.int k)) (hc : P.cellsOf t = 1) : Opnd P t 1 (fun z : Int => [.int k z]) (fun z => (Lit.int k z).wf = true) :=
  ⟨hc, fun H enc W fuel cs x h _ => by
    obtain ⟨z, rfl, _, hw⟩ := DataW.trod_int ht h
    exact ⟨z, hw, rfl, by simp [RepFL, RepF]⟩⟩
theorem Opnd.bool (ht : P.underlying t = some .bool) (hc : P.cellsOf t = 1) : Opnd P t 1 (fun z : Bool => [.bool z]) (fun _ => True) :=
  ⟨hc, fun H enc W fuel cs x h _ => by
    obtain ⟨z, rfl, _⟩ := DataW.trod_bool ht h
    exact ⟨z, trivial, rfl, by simp [RepFL, RepF]⟩⟩
theorem Opnd.str (ht : P.underlying t = some .string) (hc : P.cellsOf t = 1) : Opnd P t 1 (fun s : List UInt8 => [.str s]) (fun s => s.length ≤ reachBytes) :=
  ⟨hc, fun H enc W fuel cs x h hz => by
    obtain ⟨⟨⟨s⟩⟩, rfl, rfl, hw⟩ := DataW.trod_string ht h
    exact ⟨s, hz _ (by simp [DataW.weights]), rfl, by simp [RepFL, RepF]⟩⟩
theorem Opnd.map {f' : Y → List AV} {wf' : Y → Prop} (h : Opnd P t n f wf) (g : X → Y) (hf : ∀ x, f' (g x) = f x) (hw : ∀ x, wf x → wf' (g x)) : Opnd P t n f' wf' :=
  ⟨h.1, fun H enc W fuel cs x h1 hz => by
    obtain ⟨a, h2, h3, h4⟩ := h.2 H enc W fuel cs x h1 hz
    exact ⟨g a, hw a h2, by rw [hf]; exact h3, by rw [hf]; exact h4⟩⟩

/-- The fields of a struct, from a place on. -/
def OpndFs (P : Program) (fs : List Field) (o : Nat) {X : Type} (n : Nat) (f : X → List AV) (wf : X → Prop) : Prop :=
  ∀ (H : Type) (enc : TypeId × Value → H) (W : World) (fuel : Nat) (cs : List Value), o + n ≤ cs.length →
    (∀ fl ∈ fs, ∃ y, DataW.trod enc P W 0 (fun _ => true) true fuel fl.type ((cs.drop fl.offset).take (P.cellsOf fl.type)) = some y ∧ Sized P fl.type y.1) →
    ∃ a : X, wf a ∧ (f a).length = n ∧ RepFL (Ctx.top W) (f a) ((cs.drop o).take n)
theorem OpndFs.nil (o : Nat) : OpndFs P [] o 0 (fun _ : Unit => []) (fun _ => True) := fun _ _ _ _ _ _ _ => ⟨(), trivial, rfl, by simp [RepFL]⟩
theorem OpndFs.cons {fl : Field} {fs : List Field} {o k : Nat} {g : Y → List AV} {wg : Y → Prop} (h : Opnd P fl.type k f wf) (ho : fl.offset = o) (r : OpndFs P fs (o + k) n g wg) :
    OpndFs P (fl :: fs) o (k + n) (fun x : X × Y => f x.1 ++ g x.2) (fun x => wf x.1 ∧ wg x.2) := fun H enc W fuel cs hl hall => by
  obtain ⟨y, hy, hz⟩ := hall fl (by simp)
  rw [ho, h.1] at hy
  obtain ⟨a, h1, h2, h3⟩ := h.2 H enc W fuel _ y hy hz
  obtain ⟨b, k1, k2, k3⟩ := r H enc W fuel cs (by omega) fun x hx => hall x (by simp [hx])
  refine ⟨(a, b), ⟨h1, k1⟩, by simp [h2, k2], ?_⟩
  have e1 : (cs.drop o).take (k + n) = (cs.drop o).take k ++ (cs.drop (o + k)).take n := by
    rw [List.take_add, List.drop_drop]
  rw [e1]
  exact RepFL.append h3 k3
theorem Opnd.struct {fs : Array Field} (ht : P.underlying t = some (.struct fs)) (hc : P.cellsOf t = n) (h : OpndFs P fs.toList 0 n f wf) : Opnd P t n f wf :=
  ⟨hc, fun H enc W fuel cs x h1 hz => by
    obtain ⟨xs, m, rfl, rfl, hl, hn, hfs⟩ := DataW.trod_struct ht h1
    obtain ⟨a, k1, k2, k3⟩ := h H enc W m cs (by omega) fun fl hfl => by
      obtain ⟨i, hi, rfl⟩ := List.getElem_of_mem hfl
      have := hfs i fs.toList[i] (by simp)
      rw [this]
      have hi2 : i < xs.length := by rw [hn]; simpa using hi
      refine ⟨xs[i], List.getElem?_eq_getElem _, fun w hw => hz w ?_⟩
      simp only [DataW.weights, ht]
      exact weightsEach_mem (i := i) (by rw [List.getElem?_map, List.getElem?_eq_getElem hi]; rfl) (by simp [hi2]) hw
    refine ⟨a, k1, k2, ?_⟩
    rw [List.drop_zero, List.take_of_length_le (by omega)] at k3
    exact k3⟩

theorem Opnd.array (ht : P.underlying t = some (.array m e)) (hc : P.cellsOf t = m * n) (he : Opnd P e n f wf) :
    Opnd P t (m * n) (fun xs : List X => xs.flatMap f) (fun xs => xs.length = m ∧ ∀ x ∈ xs, wf x) :=
  ⟨hc, fun H enc W fuel cs x h1 hz => by
    obtain ⟨xs, q, rfl, rfl, hl, hn, hfs⟩ := DataW.trod_array ht h1
    have key : ∀ k, k ≤ m → ∃ ys : List X, (ys.length = k ∧ ∀ y ∈ ys, wf y) ∧ (ys.flatMap f).length = k * n ∧ RepFL (Ctx.top W) (ys.flatMap f) (cs.take (k * n)) := by
      intro k
      induction k with
      | zero => intro _; exact ⟨[], ⟨rfl, fun y hy => by cases hy⟩, by simp, by simp [RepFL]⟩
      | succ k ih =>
        intro hk
        obtain ⟨ys, ⟨a1, a2⟩, a3, a4⟩ := ih (by omega)
        have h2 := hfs k (by omega)
        rw [List.getElem?_eq_getElem (by omega), he.1] at h2
        obtain ⟨y, b1, b2, b3⟩ := he.2 H enc W q _ _ h2 fun w hw => hz w (by
          simp only [DataW.weights, ht]
          exact weightsAll_mem (List.mem_map_of_mem (List.getElem_mem _)) hw)
        refine ⟨ys ++ [y], ⟨by simp [a1], fun z hz => ?_⟩, by simp [a3, b2, Nat.add_mul], ?_⟩
        · rcases List.mem_append.1 hz with hz | hz
          · exact a2 z hz
          · rw [List.mem_singleton.1 hz]; exact b1
        · rw [Nat.add_mul, Nat.one_mul, List.take_add]
          simp only [List.flatMap_append, List.flatMap_cons, List.flatMap_nil, List.append_nil]
          exact RepFL.append a4 b3
    obtain ⟨ys, a1, a2, a3⟩ := key m (Nat.le_refl m)
    refine ⟨ys, a1, a2, ?_⟩
    rw [List.take_of_length_le (by omega)] at a3
    exact a3⟩

theorem cell_spot {W : World} {a : Addr} {v : Value} (h : W.cell? a = some v) : a.spot = none ∧ a.block < W.heap.size := by
  unfold World.cell? at h
  split at h
  · rename_i c t fr hb
    split at h
    · cases h
    · rename_i hs
      exact ⟨by simpa using hs, (Array.getElem?_eq_some_iff.1 hb).1⟩
  · cases h
theorem addr_add_add (a : Addr) (i j : Nat) : (a.add i).add j = a.add (i + j) := by
  unfold Addr.add
  by_cases hi : i = 0
  · subst hi; simp
  · by_cases hj : j = 0
    · subst hj; simp [hi]
    · simp [hi, hj, Nat.add_assoc]

theorem Opnd.slice (ht : P.underlying t = some (.slice e)) (hc : P.cellsOf t = 1) (hn : 0 < n) (hb1 : 0 < P.bytesOf e) (he : Opnd P e n f wf) :
    Opnd P t 1 (fun xs : List X => [.fsl (xs.map f)]) (fun xs => xs.length ≤ reachBytes ∧ ∀ x ∈ xs, wf x) :=
  ⟨hc, fun H enc W fuel cs x h1 hz => by
    rcases DataW.trod_slice ht h1 with ⟨rfl, rfl⟩ | ⟨a, len, cap, elems, rest, q, rfl, rfl, rfl, hb, hlc, hcm, hel, hget, _, _⟩
    · refine ⟨[], ⟨by simp, fun y hy => by cases hy⟩, rfl, ?_⟩
      simp only [RepFL, RepF]
      exact ⟨_, [], rfl, ⟨none, 0, by simp, by simp, .inl ⟨rfl, fun _ => rfl⟩⟩, rfl⟩
    · have key : ∀ k, k ≤ len → ∃ (ys : List X) (us : List Value), (ys.length = k ∧ ∀ y ∈ ys, wf y) ∧ us.length = k * n ∧ RepFLL (Ctx.top W) (ys.map f) us ∧ ∀ j u, us[j]? = some u → W.cell? (a.add j) = some u := by
        intro k
        induction k with
        | zero => intro _; exact ⟨[], [], ⟨rfl, fun y hy => by cases hy⟩, by simp, by simp [RepFLL], fun j u h => by simp at h⟩
        | succ k ih =>
          intro hk
          obtain ⟨ys, us, ⟨a1, a2⟩, a3, a4, a5⟩ := ih (by omega)
          have h2 := hget k (by omega)
          rw [List.getElem?_eq_getElem (by omega), Option.bind_eq_some_iff] at h2
          obtain ⟨cs', h3, h4⟩ := h2
          rw [he.1] at h3
          obtain ⟨_, c2, c3⟩ := World.cells?_some h3
          obtain ⟨y, b1, b2, b3⟩ := he.2 H enc W q _ _ h4 fun w hw => hz w (by
            simp only [DataW.weights, ht]
            refine List.mem_cons_of_mem _ (List.mem_append_left _ ?_)
            exact weightsAll_mem (List.mem_map_of_mem (List.getElem_mem _)) hw)
          refine ⟨ys ++ [y], us ++ cs', ⟨by simp [a1], fun z hz => ?_⟩, by simp [a3, c2, Nat.add_mul], ?_, fun j u hj => ?_⟩
          · rcases List.mem_append.1 hz with hz | hz
            · exact a2 z hz
            · rw [List.mem_singleton.1 hz]; exact b1
          · rw [List.map_append]; exact RepFLL.snoc a4 b3
          · by_cases hlt : j < us.length
            · rw [List.getElem?_append_left hlt] at hj; exact a5 j u hj
            · rw [List.getElem?_append_right (by omega)] at hj
              have hlt2 := (List.getElem?_eq_some_iff.1 hj).1
              have := c3 (j - us.length) (by omega)
              rw [addr_add_add, show k * n + (j - us.length) = j by omega] at this
              rw [this]; exact hj
      obtain ⟨ys, us, ⟨a1, a2⟩, a3, a4, a5⟩ := key len (Nat.le_refl len)
      have hr : (elems.length + rest.length) * P.bytesOf e ≤ reachBytes := hz _ (by
        simp only [DataW.weights, ht, List.length_map]
        exact List.mem_cons_self)
      have hr2 := Nat.le_mul_of_pos_right (elems.length + rest.length) hb1
      refine ⟨ys, ⟨by rw [a1]; omega, a2⟩, rfl, ?_⟩
      simp only [RepFL, RepF]
      refine ⟨_, [], rfl, ⟨some a, cap, by simp [a1, hlc], by simp [a1], ?_⟩, rfl⟩
      by_cases h0 : len = 0
      · left
        subst h0
        exact ⟨by rw [List.map_eq_nil_iff]; exact List.eq_nil_of_length_eq_zero a1, fun h => by cases h⟩
      · right
        have hpos : 0 < us.length := by rw [a3]; exact Nat.mul_pos (by omega) hn
        have hz := a5 0 us[0] (List.getElem?_eq_getElem hpos)
        have e0 : a.add 0 = a := by simp [Addr.add]
        rw [e0] at hz
        obtain ⟨s1, s2⟩ := cell_spot hz
        obtain ⟨b, off, spot⟩ := a
        simp only at s1 s2
        subst s1
        refine ⟨b, off, us, rfl, top_fz s2, fun j u hj => ?_, a4⟩
        have := a5 j u hj
        rw [Addr.add_lit] at this
        exact this⟩

/-- An argument that is a struct or an array. -/
theorem Opnd.agg (h : Opnd P t n f wf) {H : Type} {enc : TypeId × Value → H} {W : World} {us : Array Value} {d : DataW H} {ps : List MemPlace} (hd : DataW.Trod enc P W 0 (fun _ => true) true t (.agg us) d ps) (hz : Sized P t d) :
    ∃ a, wf a ∧ RepV (Ctx.top W) (.agg (f a)) (.agg us) := by
  obtain ⟨fuel, hf⟩ := hd
  obtain ⟨a, h1, _, h2⟩ := h.2 H enc W fuel _ _ hf hz
  refine ⟨a, h1, ?_⟩
  simp only [RepV]
  exact ⟨us, rfl, RepFL.repL _ _ h2⟩
/-- An argument that is one cell. -/
theorem Opnd.one {g : X → AV} (h : Opnd P t n (fun x => [g x]) wf) {H : Type} {enc : TypeId × Value → H} {W : World} {v : Value} {d : DataW H} {ps : List MemPlace} (hv : v.cells.toList = [v]) (hd : DataW.Trod enc P W 0 (fun _ => true) true t v d ps) (hz : Sized P t d) :
    ∃ a, wf a ∧ RepV (Ctx.top W) (g a) v := by
  obtain ⟨fuel, hf⟩ := hd
  obtain ⟨a, h1, _, h2⟩ := h.2 H enc W fuel _ _ hf hz
  rw [hv] at h2
  simp only [RepFL] at h2
  obtain ⟨u, r, h3, h4, rfl⟩ := h2
  simp only [List.cons.injEq] at h3
  obtain ⟨rfl, _⟩ := h3
  exact ⟨a, h1, RepF.repV _ _ h4⟩
end
end Go.Opn

namespace Go.Proofs.YtpipbjfcbbdicaaGreatDoor
open Go Go.Abs Go.Opn
theorem oStr : Opnd Tryz.prog 9 1 (fun s : List UInt8 => [.str s]) (fun s => s.length ≤ reachBytes) := Opnd.str Tryz.underlying9 (by kernel_rfl)
theorem oInt : Opnd Tryz.prog 3 1 (fun z : Int => [.int .i64 z]) (fun _ => True) := (Opnd.int Tryz.underlying3 (by kernel_rfl)).map id (fun _ => rfl) (fun _ _ => trivial)
theorem oCat : Opnd Tryz.prog 85 1 (fun z : Int => [.int .i64 z]) (fun _ => True) := (Opnd.int Tryz.underlying85 (by kernel_rfl)).map id (fun _ => rfl) (fun _ _ => trivial)
theorem oTxt : Opnd Tryz.prog 87 2 encT (fun x => x.text.length ≤ 140737488355328) := by
  have h := Opnd.struct (n := 1 + (1 + 0)) Tryz.underlying87 (by kernel_rfl) (OpndFs.cons oCat rfl (OpndFs.cons oStr rfl (OpndFs.nil _)))
  exact h.map (fun x => (⟨x.1, x.2.1⟩ : TTxt)) (fun _ => rfl) (fun x h => by have := h.2.1; unfold reachBytes at this; exact Nat.le_trans this (by decide))
theorem reach_le {n : Nat} (h : n ≤ reachBytes) : n ≤ 140737488355328 := by unfold reachBytes at h; exact Nat.le_trans h (by decide)
theorem oTxts : Opnd Tryz.prog 27 1 (fun l => [txtL l]) txtWide :=
  (Opnd.slice Tryz.underlying27 (by kernel_rfl) (by omega) (of_decide_eq_true (by kernel_rfl)) oTxt).map id (fun _ => rfl) (fun x h => ⟨reach_le h.1, h.2⟩)
theorem oRow : Opnd Tryz.prog 43 2 encR (fun r => txtWide r.texts) := by
  have h := Opnd.struct (n := 1 + (1 + 0)) Tryz.underlying43 (by kernel_rfl) (OpndFs.cons oInt rfl (OpndFs.cons oTxts rfl (OpndFs.nil _)))
  exact h.map (fun x => (⟨x.1, x.2.1⟩ : TRow)) (fun _ => rfl) (fun x h => h.2.1)
theorem oRows : Opnd Tryz.prog 24 1 (fun l => [rowL l]) rowWide :=
  (Opnd.slice Tryz.underlying24 (by kernel_rfl) (by omega) (of_decide_eq_true (by kernel_rfl)) oRow).map id (fun _ => rfl) (fun x h => ⟨reach_le h.1, h.2⟩)
theorem oCur : Opnd Tryz.prog 46 8 encCu (fun c => c.code.length ≤ 140737488355328 ∧ c.symbol.length ≤ 140737488355328 ∧ c.narrow.length ≤ 140737488355328 ∧ txtWide c.names) := by
  have h := Opnd.struct (n := 1 + (1 + (1 + (1 + (1 + (1 + (1 + (1 + 0)))))))) Tryz.underlying46 (by kernel_rfl) (OpndFs.cons oStr rfl (OpndFs.cons oStr rfl (OpndFs.cons oStr rfl (OpndFs.cons oTxts rfl (OpndFs.cons oInt rfl (OpndFs.cons oInt rfl (OpndFs.cons oInt rfl (OpndFs.cons oInt rfl (OpndFs.nil _)))))))))
  exact h.map (fun x => (⟨x.1, x.2.1, x.2.2.1, x.2.2.2.1, x.2.2.2.2.1, x.2.2.2.2.2.1, x.2.2.2.2.2.2.1, x.2.2.2.2.2.2.2.1⟩ : TCur)) (fun _ => rfl) (fun x h => ⟨reach_le h.1, reach_le h.2.1, reach_le h.2.2.1, h.2.2.2.1⟩)
theorem oCurs : Opnd Tryz.prog 25 1 (fun l => [curL l]) (fun l => l.length ≤ 140737488355328 ∧ ∀ c ∈ l, c.code.length ≤ 140737488355328 ∧ c.symbol.length ≤ 140737488355328 ∧ c.narrow.length ≤ 140737488355328 ∧ txtWide c.names) :=
  (Opnd.slice Tryz.underlying25 (by kernel_rfl) (by omega) (of_decide_eq_true (by kernel_rfl)) oCur).map id (fun _ => rfl) (fun x h => ⟨reach_le h.1, h.2⟩)
theorem oUnt : Opnd Tryz.prog 48 2 encU (fun u => u.name.length ≤ 140737488355328 ∧ txtWide u.texts) := by
  have h := Opnd.struct (n := 1 + (1 + 0)) Tryz.underlying48 (by kernel_rfl) (OpndFs.cons oStr rfl (OpndFs.cons oTxts rfl (OpndFs.nil _)))
  exact h.map (fun x => (⟨x.1, x.2.1⟩ : TUnt)) (fun _ => rfl) (fun x h => ⟨reach_le h.1, h.2.1⟩)
theorem oUnts : Opnd Tryz.prog 26 1 (fun l => [untL l]) (fun l => l.length ≤ 140737488355328 ∧ ∀ u ∈ l, u.name.length ≤ 140737488355328 ∧ txtWide u.texts) :=
  (Opnd.slice Tryz.underlying26 (by kernel_rfl) (by omega) (of_decide_eq_true (by kernel_rfl)) oUnt).map id (fun _ => rfl) (fun x h => ⟨reach_le h.1, h.2⟩)
theorem oSpc : Opnd Tryz.prog 29 3 TSpc.cells (fun x => x.cur.length ≤ 140737488355328 ∧ x.num.length ≤ 140737488355328 ∧ x.ins.length ≤ 140737488355328) := by
  have h := Opnd.struct (n := 1 + (1 + (1 + 0))) Tryz.underlying29 (by kernel_rfl) (OpndFs.cons oStr rfl (OpndFs.cons oStr rfl (OpndFs.cons oStr rfl (OpndFs.nil _))))
  exact h.map (fun x => (⟨x.1, x.2.1, x.2.2.1⟩ : TSpc)) (fun _ => rfl) (fun x h => ⟨reach_le h.1, reach_le h.2.1, reach_le h.2.2.1⟩)
def digOf (l : List (List UInt8)) : TDig := ⟨l[0]?.getD [], l[1]?.getD [], l[2]?.getD [], l[3]?.getD [], l[4]?.getD [], l[5]?.getD [], l[6]?.getD [], l[7]?.getD [], l[8]?.getD [], l[9]?.getD []⟩
theorem digOf_eq {l : List (List UInt8)} (h : l.length = 10) : (digOf l).list = l := by
  match l, h with
  | [_, _, _, _, _, _, _, _, _, _], _ => rfl
theorem dig_cells (d : TDig) : d.cells = d.list.flatMap fun s => [.str s] := rfl
theorem oDig : Opnd Tryz.prog 23 10 TDig.cells (fun d => ∀ x ∈ d.list, x.length ≤ 140737488355328) := by
  have h := Opnd.array (m := 10) Tryz.underlying23 (by kernel_rfl) oStr
  refine ⟨h.1, fun H enc W fuel cs x h1 hz => ?_⟩
  obtain ⟨a, ⟨k1, k2⟩, k3, k4⟩ := h.2 H enc W fuel cs x h1 hz
  have e := digOf_eq k1
  refine ⟨digOf a, fun x hx => reach_le (k2 x (by rw [← e]; exact hx)), ?_, ?_⟩
  · rw [dig_cells, e]; exact k3
  · rw [dig_cells, e]; exact k4
theorem oTab : Opnd Tryz.prog 31 34 tabC TTab.wide := by
  have h := Opnd.struct (n := 10 + (1 + (1 + (1 + (1 + (1 + (1 + (1 + (1 + (1 + (1 + (1 + (1 + (1 + (1 + (1 + (1 + (1 + (1 + (3 + (3 + 0))))))))))))))))))))) Tryz.underlying31 (by kernel_rfl) (OpndFs.cons oDig rfl (OpndFs.cons oStr rfl (OpndFs.cons oStr rfl (OpndFs.cons oStr rfl (OpndFs.cons oStr rfl (OpndFs.cons oStr rfl (OpndFs.cons oStr rfl
    (OpndFs.cons oInt rfl (OpndFs.cons oStr rfl (OpndFs.cons oStr rfl (OpndFs.cons oStr rfl (OpndFs.cons oStr rfl (OpndFs.cons oStr rfl (OpndFs.cons oRows rfl (OpndFs.cons oRows rfl (OpndFs.cons oRows rfl
    (OpndFs.cons oCurs rfl (OpndFs.cons oUnts rfl (OpndFs.cons oTxts rfl (OpndFs.cons oSpc rfl (OpndFs.cons oSpc rfl (OpndFs.nil _))))))))))))))))))))))
  refine ⟨h.1, fun H enc W fuel cs x h1 hz => ?_⟩
  obtain ⟨⟨a0, a1, a2, a3, a4, a5, a6, a7, a8, a9, a10, a11, a12, a13, a14, a15, a16, a17, a18, a19, a20, _⟩, ⟨k0, k1, k2, k3, k4, k5, k6, k7, k8, k9, k10, k11, k12, k13, k14, k15, k16, k17, k18, k19, k20, _⟩, _, k⟩ := h.2 H enc W fuel cs x h1 hz
  refine ⟨⟨a0, a1, a2, a3, a4, a5, a6, a7, a8, a9, a10, a11, a12, a13, a14, a15, a16, a17, a18, a19, a20⟩, ⟨k0, ?_, reach_le k12, k13, k14, k15, k16, k17, k18⟩, rfl, k⟩
  intro s hs
  simp only [TTab.strs, List.mem_cons, List.not_mem_nil, or_false] at hs
  rcases hs with rfl | rfl | rfl | rfl | rfl | rfl | rfl | rfl | rfl | rfl | rfl | rfl | rfl | rfl | rfl | rfl
  · exact reach_le k1
  · exact reach_le k2
  · exact reach_le k3
  · exact reach_le k4
  · exact reach_le k5
  · exact reach_le k6
  · exact reach_le k8
  · exact reach_le k9
  · exact reach_le k10
  · exact reach_le k11
  · exact k19.1
  · exact k19.2.1
  · exact k19.2.2
  · exact k20.1
  · exact k20.2.1
  · exact k20.2.2
end Go.Proofs.YtpipbjfcbbdicaaGreatDoor

namespace Go.Proofs.YtpipbjfcbbdicaaGreatDoor
open Go Go.Abs
theorem block_of_cell {W : World} {b off : Nat} {v : Value} (h : W.cell? ⟨b, off, none⟩ = some v) : b < W.heap.size := by
  rcases Nat.lt_or_ge b W.heap.size with h' | h'
  · exact h'
  · simp [World.cell?, Array.getElem?_eq_none h'] at h
theorem rep_of_ints {C : Ctx} : ∀ l : List (IntKind × Int), RepFL C (l.map fun x => .int x.1 x.2) (l.map fun x => Value.int x.1 x.2)
  | [] => by simp [RepFL]
  | x :: l => by simp only [List.map_cons, RepFL]; exact ⟨_, _, rfl, by simp [RepF], rep_of_ints l⟩
def firstL : List (IntKind × Int) := (List.range 256).map fun c => (IntKind.u8, ((Lib.firstT c : Nat) : Int))
def acceptL : List (IntKind × Int) := (List.range 16).flatMap fun i => [(IntKind.u8, ((Lib.accLo i : Nat) : Int)), (IntKind.u8, ((Lib.accHi i : Nat) : Int))]
theorem first_eq : firstCells = firstL.map fun x => AV.int x.1 x.2 := by unfold firstCells firstL; rw [List.map_map]; rfl
theorem accept_eq : acceptCells = acceptL.map fun x => AV.int x.1 x.2 := by unfold acceptCells acceptL; rw [List.map_flatMap]; rfl
theorem accept_at : ∀ j < 32, acceptL[j]? = some (if j % 2 = 0 then (IntKind.u8, ((Lib.accLo (j / 2) : Nat) : Int)) else (IntKind.u8, ((Lib.accHi (j / 2) : Nat) : Int))) := by decide
theorem accept_len : acceptL.length = 32 := by decide
theorem top_GL {W : World} {m : Int} (hU : Lib.Utf8Tabs 0 1 W) (hm : W.cell? ⟨5, 0, none⟩ = some (.int .i64 m)) : Abs.Good (GL m) (Ctx.top W) := by
  refine top_good fun p hp => ?_
  simp only [GL, List.mem_cons, List.mem_nil_iff, or_false] at hp
  obtain ⟨h1, h2⟩ := hU
  rcases hp with rfl | rfl | rfl
  · refine ⟨firstL.map fun x => Value.int x.1 x.2, block_of_cell (h1 0 (by decide)), fun j u hu => ?_, by rw [first_eq]; exact rep_of_ints _⟩
    have hj : j < 256 := by have := (List.getElem?_eq_some_iff.1 hu).1; simpa [firstL] using this
    have := h1 j hj
    rw [Nat.zero_add, this, ← hu]
    simp [firstL, hj]
  · refine ⟨acceptL.map fun x => Value.int x.1 x.2, block_of_cell (h2 0 (by decide)).1, fun j u hu => ?_, by rw [accept_eq]; exact rep_of_ints _⟩
    have hj : j < 32 := by have := (List.getElem?_eq_some_iff.1 hu).1; simpa [accept_len] using this
    have hk := h2 (j / 2) (by omega)
    rw [List.getElem?_map, accept_at j hj] at hu
    rw [Nat.zero_add, ← hu]
    by_cases hpar : j % 2 = 0
    · rw [if_pos hpar]
      have e : 2 * (j / 2) = j := by omega
      have := hk.1
      rw [e] at this
      exact this
    · rw [if_neg hpar]
      have e : 2 * (j / 2) + 1 = j := by omega
      have := hk.2
      rw [e] at this
      exact this
  · exact ⟨[.int .i64 m], block_of_cell hm, fun j u hu => by
      cases j with
      | zero => simp at hu; rw [← hu]; exact hm
      | succ j => simp at hu, by simp [RepFL, RepF]⟩
end Go.Proofs.YtpipbjfcbbdicaaGreatDoor

namespace Go.Proofs.YtpipbjfcbbdicaaGreatDoor
open Go Go.Abs Go.Shelf Go.Opn
open Go.ChangeShapes Go.WideShapes Go.ChangeAt Go.RowKit

theorem own : ownKnob Tryz.prog.godebug = none := by kernel_rfl
theorem lout : laidOutB Tryz.prog = true := by kernel_rfl
noncomputable def laidWorld (os : Os) : World := World.laidAll Tryz.prog os Rows.validWhyRow.laid
theorem laid_in (os : Os) (args : Array Value) : laidMet Tryz.prog Rows.validWhyRow.laid ((laidWorld os).forCall (fun _ _ => 0) ⟨#[], args, []⟩).memory :=
  laidMet_laidAll args (by kernel_rfl) (by kernel_rfl)
def zeroV : Value := .agg #[.string ⟨#[]⟩, .string ⟨#[]⟩, .string ⟨#[]⟩, .string ⟨#[]⟩, .string ⟨#[]⟩, .string ⟨#[]⟩, .string ⟨#[]⟩, .string ⟨#[]⟩, .string ⟨#[]⟩, .string ⟨#[]⟩, .string ⟨#[]⟩, .string ⟨#[]⟩, .string ⟨#[]⟩, .string ⟨#[]⟩, .string ⟨#[]⟩, .string ⟨#[]⟩,
  .int .i64 0, .string ⟨#[]⟩, .string ⟨#[]⟩, .string ⟨#[]⟩, .string ⟨#[]⟩, .string ⟨#[]⟩, .slice none 0 0, .slice none 0 0, .slice none 0 0, .slice none 0 0, .slice none 0 0, .slice none 0 0,
  .string ⟨#[]⟩, .string ⟨#[]⟩, .string ⟨#[]⟩, .string ⟨#[]⟩, .string ⟨#[]⟩, .string ⟨#[]⟩]

set_option maxRecDepth 100000 in
theorem why_lifted (os : Os) (started : os.Started) (H : Type) (enc : TypeId × Value → H) :
    ReturnsInHanded {} Tryz.checked os 3 .any (fun w args => (Rows.validWhySpec.pre enc Tryz.prog Tryz.f3 Rows.validWhyRow.domain false w args ∧ laidMetH Tryz.prog Rows.validWhyRow.laid w) ∧ sizedMet enc Tryz.prog Tryz.f3 (OpenSpec.ofChange Rows.validWhySpec) false w args)
      (Rows.validWhySpec.post enc Tryz.prog Tryz.f3 false true false false) := by
  refine returns_both (C := Tryz.checked) (X := fun w _ => laidMetH Tryz.prog Rows.validWhyRow.laid w) (fun _ _ _ hh h => h.of_heap hh) own started (by kernel_rfl) Tryz.func3
    (ChangeSpec.witness_at (enc := enc) (C := Tryz.checked) (os := os) (X := fun w _ => laidMetH Tryz.prog Rows.validWhyRow.laid w) false (laidWorld os) #[zeroV] 8 (World.laidAll_os _ _ _) (by kernel_rfl) (by kernel_rfl) (by kernel_rfl) (by kernel_rfl) (by kernel_rfl) (laid_in os _)) ?_
  intro W base args ds gs before hval0 hW _ hsz0 hL hsh _
  have hsz : (DataW.weightsEach Tryz.prog (Tryz.f3.params.toList ++ Rows.validWhySpec.plain.varTypes Tryz.prog) (ds ++ gs)).all (· ≤ reachBytes) = true := hsz0
  have hval : ∀ (j : Nat) t v, Tryz.f3.params[j]? = some t → args[j]? = some v → Value.okWide Tryz.prog W .any base t v := hval0
  have hW' := hW
  obtain ⟨p, q, hA0, hV, rfl, hfz, hnd⟩ := hW
  have hA : DataW.TrodAll enc Tryz.prog W 0 (fun _ => true) true Tryz.f3.params.toList args.toList ds p := hA0
  rw [Tryz.params3] at hA hval hsz
  obtain ⟨v0, d0, rfl, rfl, h0⟩ := trodAll_one hA
  obtain ⟨rfl, rfl⟩ := trodVars_none hV
  have hlt0 : ∀ x ∈ p, x.block < W.heap.size := fun x hx => by simpa using hW'.lt x (by simp [hx])
  obtain ⟨us, rfl, _⟩ := okWide_struct Tryz.underlying31 (hval 0 31 v0 rfl rfl)
  have hz0 : Sized Tryz.prog 31 d0 := Sized.of_each hsz (i := 0) rfl rfl
  obtain ⟨t, ht, hR⟩ := oTab.agg h0 hz0
  clear hA0 hval0 hsz0 hsz
  have hL' : laidMet Tryz.prog Rows.validWhyRow.laid W := hL
  have hU : Lib.Utf8Tabs 0 1 W :=
    utf8Tabs_of_reads (ρ := Tryz.lays197_ren) { Tryz.lays197 with } ⟨by kernel_rfl, by kernel_rfl, by kernel_rfl, by kernel_rfl, by kernel_rfl, by kernel_rfl, by kernel_rfl⟩
      (Lib.laidMet.reads hL' (.tail _ (.tail _ (.tail _ (.tail _ (.tail _ (.tail _ (.head _)))))))) (Lib.laidMet.reads hL' (.tail _ (.tail _ (.tail _ (.head _)))))
  obtain ⟨m, hm⟩ : ∃ m, W.cell? ⟨5, 0, none⟩ = some (.int .i64 m) := cell_of_shapedOpen_int (P := Tryz.prog) (t := 3) (zero := #[.int .i64 0]) hsh (of_decide_eq_true (by kernel_rfl)) (by kernel_rfl) rfl (by kernel_rfl) (by kernel_rfl) Tryz.underlying3
  refine (Does.law (ValidWhy_does m t ht) Tryz.func3 rfl rfl (top_GL hU hm) (cargs := #[.agg us]) (by simp only [RepL]; exact ⟨_, [], rfl, hR, rfl⟩)).mono fun e W' ⟨he, bel⟩ => ?_
  subst he
  exact ⟨_, rfl, _, _, _, [], _, [], hW', trodAll_mk1 (shut_bool Tryz.underlying4 _), trodAll_mk1 (Below.trod lout (by kernel_rfl) (of_decide_eq_true (by kernel_rfl)) h0 bel hlt0), rfl, bel.frame _, fun h => by cases h⟩

theorem why_holds : Rows.ValidWhySaid :=
  OpenClaim.holds_of_wide 3 Tryz.f3 rfl rfl rfl rfl rfl rfl rfl ⟨rfl, rfl, rfl, rfl, rfl⟩ rfl rfl rfl rfl rfl (by kernel_rfl) Tryz.func3 (by kernel_rfl)
    (of_decide_eq_true (by kernel_rfl)) (by unfold Func.isWrapper; rw [if_neg (of_decide_eq_false (by kernel_rfl))]; exact ⟨rfl, rfl⟩)
    (fun os started H enc _ => why_lifted os started H enc)
end Go.Proofs.YtpipbjfcbbdicaaGreatDoor

namespace Go.Proofs.YtpipbjfcbbdicaaGreatDoor
open Go
theorem validWhy_card : Rows.ValidWhyCardSaid :=
  Claim7.holds_tied_plain_at .later [] [.data, .data, .data, .data, .sentinel, .sentinel, .pinned] true (true, "1428e2b7c30448e90fe1d2ac7527b8b28158f67c7dd2b7ee40bb4a17c3521609") true
    why_holds (fun _ h => by cases h) (by kernel_rfl) (fun _ h => by cases h) validWhy_row_tie rfl ⟨rfl, rfl⟩ (by kernel_rfl) rfl
    (fun f fn hf hfn => by
      obtain rfl : f = 3 := Option.some.inj ((show Tryz.prog.funcNamed "florin/florinlaw16.ValidWhy" = some 3 by kernel_rfl).symm.trans hf) |>.symm
      obtain rfl : fn = Tryz.f3 := (Option.some.inj (Tryz.func3.symm.trans hfn)).symm
      exact ⟨by kernel_rfl, fun j t ht => by
        rw [Tryz.params3] at ht
        have h3 : t = 31 := by
          rcases j with _ | j
          · simpa using ht.symm
          · simp at ht
        subst h3
        exact (show Tryz.prog.wantsStandIn 31 = false by kernel_rfl)⟩)
    (by kernel_rfl)
#print axioms validWhy_card
end Go.Proofs.YtpipbjfcbbdicaaGreatDoor
