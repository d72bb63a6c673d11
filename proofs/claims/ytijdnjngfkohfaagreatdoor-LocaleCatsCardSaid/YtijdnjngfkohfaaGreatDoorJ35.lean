/- The three tables: well formed, and small. -/
import Derived.Test.YtijdnjngfkohfaaGreatDoorJ02
import Derived.ChangeArms
import Derived.OpenShut
import Derived.Carry
import Derived.WideShapes
import Derived.Test.YtijdnjngfkohfaaGreatDoorRows
import Derived.ProofKit
import Derived.Test.YtijdnjngfkohfaaGreatDoorJ18
import Derived.Test.YtijdnjngfkohfaaGreatDoorJ34
import Derived.Test.YtijdnjngfkohfaaGreatDoorJ27
import Derived.Test.YtijdnjngfkohfaaGreatDoorJ31
import Derived.Test.YtijdnjngfkohfaaGreatDoorJ23
import Derived.Test.YtijdnjngfkohfaaGreatDoorJ26
set_option linter.unusedVariables false
set_option linter.unusedSimpArgs false
set_option maxRecDepth 100000
set_option maxHeartbeats 4000000

namespace Go.Opn
open Go Go.Abs
theorem RepFL.append {C : Ctx} : ∀ {xs ys : List AV} {us vs : List Value}, RepFL C xs us → RepFL C ys vs → RepFL C (xs ++ ys) (us ++ vs)
  | [], ys, us, vs, h, k => by simp only [RepFL] at h; subst h; simpa using k
  | a :: xs, ys, us, vs, h, k => by
    simp only [RepFL] at h
    obtain ⟨x, r, rfl, h1, h2⟩ := h
    simp only [List.cons_append, RepFL]
    exact ⟨x, _, rfl, h1, RepFL.append h2 k⟩
theorem RepFLL.snoc {C : Ctx} : ∀ {es : List (List AV)} {e : List AV} {us vs : List Value}, RepFLL C es us → RepFL C e vs → RepFLL C (es ++ [e]) (us ++ vs)
  | [], e, us, vs, h, k => by simp only [RepFLL] at h; subst h; simp only [List.nil_append, RepFLL]; exact ⟨vs, [], by simp, k, rfl⟩
  | a :: es, e, us, vs, h, k => by
    simp only [RepFLL] at h
    obtain ⟨p, r, rfl, h1, h2⟩ := h
    simp only [List.cons_append, RepFLL]
    exact ⟨p, _, by simp, h1, RepFLL.snoc h2 k⟩
def Sized {H : Type} (P : Program) (t : TypeId) (d : DataW H) : Prop := ∀ w ∈ d.weights P t, w ≤ reachBytes
theorem weightsAll_mem {H : Type} {P : Program} {e : TypeId} {d : DataW H} {w : Nat} : ∀ {ds : List (DataW H)}, d ∈ ds → w ∈ d.weights P e → w ∈ DataW.weightsAll P e ds
  | a :: r, h, hw => by
    simp only [DataW.weightsAll, List.mem_append]
    rcases List.mem_cons.1 h with rfl | h
    · exact .inl hw
    · exact .inr (weightsAll_mem h hw)
theorem weightsEach_mem {H : Type} {P : Program} {t : TypeId} {d : DataW H} {w : Nat} : ∀ {ts : List TypeId} {ds : List (DataW H)} {i : Nat}, ts[i]? = some t → ds[i]? = some d → w ∈ d.weights P t → w ∈ DataW.weightsEach P ts ds
  | a :: r, b :: q, i, h, k, hw => by
    simp only [DataW.weightsEach, List.mem_append]
    rcases i with _ | i
    · simp only [List.getElem?_cons_zero, Option.some.injEq] at h k
      subst h; subst k
      exact .inl hw
    · simp only [List.getElem?_cons_succ] at h k
      exact .inr (weightsEach_mem h k hw)
theorem Sized.of_each {H : Type} {P : Program} {ts : List TypeId} {ds : List (DataW H)} (h : (DataW.weightsEach P ts ds).all (· ≤ reachBytes) = true) {i : Nat} {t : TypeId} {d : DataW H} (ht : ts[i]? = some t) (hd : ds[i]? = some d) : Sized P t d := fun w hw => by
  have := List.all_eq_true.1 h w (weightsEach_mem ht hd hw)
  simpa using this
def Opnd (P : Program) (t : TypeId) {X : Type} (n : Nat) (f : X → List AV) (wf : X → Prop) : Prop :=
  P.cellsOf t = n ∧ ∀ (H : Type) (enc : TypeId × Value → H) (W : World) (fuel : Nat) (cs : List Value) (x : DataW H × List MemPlace),
    DataW.trod enc P W 0 (fun _ => true) true fuel t cs = some x → Sized P t x.1 → ∃ a : X, wf a ∧ (f a).length = n ∧ RepFL (Ctx.top W) (f a) cs
section
variable {P : Program} {t e : TypeId} {X Y : Type} {n m : Nat} {f : X → List AV} {wf : X → Prop}
theorem Opnd.int {k : IntKind} (ht : P.underlying t = some (.int k)) (hc : P.cellsOf t = 1) : Opnd P t 1 (fun z : Int => [.int k z]) (fun z => (Lit.int k z).wf = true) :=
  ⟨hc, fun H enc W fuel cs x h _ => by
    obtain ⟨z, rfl, _, hw⟩ := DataW.trod_int ht h
    exact ⟨z, hw, rfl, by simp [RepFL, RepF]⟩⟩
theorem Opnd.bool (ht : P.underlying t = some .bool) (hc : P.cellsOf t = 1) : Opnd P t 1 (fun z : Bool => [.bool z]) (fun _ => True) :=
  ⟨hc, fun H enc W fuel cs x h _ => by
    obtain ⟨z, rfl, _⟩ := DataW.trod_bool ht h
    exact ⟨z, trivial, rfl, by simp [RepFL, RepF]⟩⟩
theorem Opnd.str (ht : P.underlying t = some .string) (hc : P.cellsOf t = 1) : Opnd P t 1 (fun s : List UInt8 => [.str s]) (fun s => s.length ≤ reachBytes) :=
  ⟨hc, fun H enc W fuel cs x h hz => by
    obtain ⟨⟨⟨s⟩⟩, rfl, rfl, hw⟩ := DataW.trod_string ht h
    exact ⟨s, hz _ (by simp [DataW.weights]), rfl, by simp [RepFL, RepF]⟩⟩
theorem Opnd.map {f' : Y → List AV} {wf' : Y → Prop} (h : Opnd P t n f wf) (g : X → Y) (hf : ∀ x, f' (g x) = f x) (hw : ∀ x, wf x → wf' (g x)) : Opnd P t n f' wf' :=
  ⟨h.1, fun H enc W fuel cs x h1 hz => by
    obtain ⟨a, h2, h3, h4⟩ := h.2 H enc W fuel cs x h1 hz
    exact ⟨g a, hw a h2, by rw [hf]; exact h3, by rw [hf]; exact h4⟩⟩
def OpndFs (P : Program) (fs : List Field) (o : Nat) {X : Type} (n : Nat) (f : X → List AV) (wf : X → Prop) : Prop :=
  ∀ (H : Type) (enc : TypeId × Value → H) (W : World) (fuel : Nat) (cs : List Value), o + n ≤ cs.length →
    (∀ fl ∈ fs, ∃ y, DataW.trod enc P W 0 (fun _ => true) true fuel fl.type ((cs.drop fl.offset).take (P.cellsOf fl.type)) = some y ∧ Sized P fl.type y.1) →
    ∃ a : X, wf a ∧ (f a).length = n ∧ RepFL (Ctx.top W) (f a) ((cs.drop o).take n)
theorem OpndFs.nil (o : Nat) : OpndFs P [] o 0 (fun _ : Unit => []) (fun _ => True) := fun _ _ _ _ _ _ _ => ⟨(), trivial, rfl, by simp [RepFL]⟩
theorem OpndFs.cons {fl : Field} {fs : List Field} {o k : Nat} {g : Y → List AV} {wg : Y → Prop} (h : Opnd P fl.type k f wf) (ho : fl.offset = o) (r : OpndFs P fs (o + k) n g wg) :
    OpndFs P (fl :: fs) o (k + n) (fun x : X × Y => f x.1 ++ g x.2) (fun x => wf x.1 ∧ wg x.2) := fun H enc W fuel cs hl hall => by
  obtain ⟨y, hy, hz⟩ := hall fl (by simp)
  rw [ho, h.1] at hy
  obtain ⟨a, h1, h2, h3⟩ := h.2 H enc W fuel _ y hy hz
  obtain ⟨b, k1, k2, k3⟩ := r H enc W fuel cs (by omega) fun x hx => hall x (by simp [hx])
  refine ⟨(a, b), ⟨h1, k1⟩, by simp [h2, k2], ?_⟩
  have e1 : (cs.drop o).take (k + n) = (cs.drop o).take k ++ (cs.drop (o + k)).take n := by
    rw [List.take_add, List.drop_drop]
  rw [e1]
  exact RepFL.append h3 k3
theorem Opnd.struct {fs : Array Field} (ht : P.underlying t = some (.struct fs)) (hc : P.cellsOf t = n) (h : OpndFs P fs.toList 0 n f wf) : Opnd P t n f wf :=
  ⟨hc, fun H enc W fuel cs x h1 hz => by
    obtain ⟨xs, m, rfl, rfl, hl, hn, hfs⟩ := DataW.trod_struct ht h1
    obtain ⟨a, k1, k2, k3⟩ := h H enc W m cs (by omega) fun fl hfl => by
      obtain ⟨i, hi, rfl⟩ := List.getElem_of_mem hfl
      have := hfs i fs.toList[i] (by simp)
      rw [this]
      have hi2 : i < xs.length := by rw [hn]; simpa using hi
      refine ⟨xs[i], List.getElem?_eq_getElem _, fun w hw => hz w ?_⟩
      simp only [DataW.weights, ht]
      exact weightsEach_mem (i := i) (by rw [List.getElem?_map, List.getElem?_eq_getElem hi]; rfl) (by simp [hi2]) hw
    refine ⟨a, k1, k2, ?_⟩
    rw [List.drop_zero, List.take_of_length_le (by omega)] at k3
    exact k3⟩
theorem Opnd.array (ht : P.underlying t = some (.array m e)) (hc : P.cellsOf t = m * n) (he : Opnd P e n f wf) :
    Opnd P t (m * n) (fun xs : List X => xs.flatMap f) (fun xs => xs.length = m ∧ ∀ x ∈ xs, wf x) :=
  ⟨hc, fun H enc W fuel cs x h1 hz => by
    obtain ⟨xs, q, rfl, rfl, hl, hn, hfs⟩ := DataW.trod_array ht h1
    have key : ∀ k, k ≤ m → ∃ ys : List X, (ys.length = k ∧ ∀ y ∈ ys, wf y) ∧ (ys.flatMap f).length = k * n ∧ RepFL (Ctx.top W) (ys.flatMap f) (cs.take (k * n)) := by
      intro k
      induction k with
      | zero => intro _; exact ⟨[], ⟨rfl, fun y hy => by cases hy⟩, by simp, by simp [RepFL]⟩
      | succ k ih =>
        intro hk
        obtain ⟨ys, ⟨a1, a2⟩, a3, a4⟩ := ih (by omega)
        have h2 := hfs k (by omega)
        rw [List.getElem?_eq_getElem (by omega), he.1] at h2
        obtain ⟨y, b1, b2, b3⟩ := he.2 H enc W q _ _ h2 fun w hw => hz w (by
          simp only [DataW.weights, ht]
          exact weightsAll_mem (List.mem_map_of_mem (List.getElem_mem _)) hw)
        refine ⟨ys ++ [y], ⟨by simp [a1], fun z hz => ?_⟩, by simp [a3, b2, Nat.add_mul], ?_⟩
        · rcases List.mem_append.1 hz with hz | hz
          · exact a2 z hz
          · rw [List.mem_singleton.1 hz]; exact b1
        · rw [Nat.add_mul, Nat.one_mul, List.take_add]
          simp only [List.flatMap_append, List.flatMap_cons, List.flatMap_nil, List.append_nil]
          exact RepFL.append a4 b3
    obtain ⟨ys, a1, a2, a3⟩ := key m (Nat.le_refl m)
    refine ⟨ys, a1, a2, ?_⟩
    rw [List.take_of_length_le (by omega)] at a3
    exact a3⟩
theorem cell_spot {W : World} {a : Addr} {v : Value} (h : W.cell? a = some v) : a.spot = none ∧ a.block < W.heap.size := by
  unfold World.cell? at h
  split at h
  · rename_i c t fr hb
    split at h
    · cases h
    · rename_i hs
      exact ⟨by simpa using hs, (Array.getElem?_eq_some_iff.1 hb).1⟩
  · cases h
theorem addr_add_add (a : Addr) (i j : Nat) : (a.add i).add j = a.add (i + j) := by
  unfold Addr.add
  by_cases hi : i = 0
  · subst hi; simp
  · by_cases hj : j = 0
    · subst hj; simp [hi]
    · simp [hi, hj, Nat.add_assoc]
theorem Opnd.slice (ht : P.underlying t = some (.slice e)) (hc : P.cellsOf t = 1) (hn : 0 < n) (hb1 : 0 < P.bytesOf e) (he : Opnd P e n f wf) :
    Opnd P t 1 (fun xs : List X => [.fsl (xs.map f)]) (fun xs => xs.length ≤ reachBytes ∧ ∀ x ∈ xs, wf x) :=
  ⟨hc, fun H enc W fuel cs x h1 hz => by
    rcases DataW.trod_slice ht h1 with ⟨rfl, rfl⟩ | ⟨a, len, cap, elems, rest, q, rfl, rfl, rfl, hb, hlc, hcm, hel, hget, _, _⟩
    · refine ⟨[], ⟨by simp, fun y hy => by cases hy⟩, rfl, ?_⟩
      simp only [RepFL, RepF]
      exact ⟨_, [], rfl, ⟨none, 0, by simp, by simp, .inl ⟨rfl, fun _ => rfl⟩⟩, rfl⟩
    · have key : ∀ k, k ≤ len → ∃ (ys : List X) (us : List Value), (ys.length = k ∧ ∀ y ∈ ys, wf y) ∧ us.length = k * n ∧ RepFLL (Ctx.top W) (ys.map f) us ∧ ∀ j u, us[j]? = some u → W.cell? (a.add j) = some u := by
        intro k
        induction k with
        | zero => intro _; exact ⟨[], [], ⟨rfl, fun y hy => by cases hy⟩, by simp, by simp [RepFLL], fun j u h => by simp at h⟩
        | succ k ih =>
          intro hk
          obtain ⟨ys, us, ⟨a1, a2⟩, a3, a4, a5⟩ := ih (by omega)
          have h2 := hget k (by omega)
          rw [List.getElem?_eq_getElem (by omega), Option.bind_eq_some_iff] at h2
          obtain ⟨cs', h3, h4⟩ := h2
          rw [he.1] at h3
          obtain ⟨_, c2, c3⟩ := World.cells?_some h3
          obtain ⟨y, b1, b2, b3⟩ := he.2 H enc W q _ _ h4 fun w hw => hz w (by
            simp only [DataW.weights, ht]
            refine List.mem_cons_of_mem _ (List.mem_append_left _ ?_)
            exact weightsAll_mem (List.mem_map_of_mem (List.getElem_mem _)) hw)
          refine ⟨ys ++ [y], us ++ cs', ⟨by simp [a1], fun z hz => ?_⟩, by simp [a3, c2, Nat.add_mul], ?_, fun j u hj => ?_⟩
          · rcases List.mem_append.1 hz with hz | hz
            · exact a2 z hz
            · rw [List.mem_singleton.1 hz]; exact b1
          · rw [List.map_append]; exact RepFLL.snoc a4 b3
          · by_cases hlt : j < us.length
            · rw [List.getElem?_append_left hlt] at hj; exact a5 j u hj
            · rw [List.getElem?_append_right (by omega)] at hj
              have hlt2 := (List.getElem?_eq_some_iff.1 hj).1
              have := c3 (j - us.length) (by omega)
              rw [addr_add_add, show k * n + (j - us.length) = j by omega] at this
              rw [this]; exact hj
      obtain ⟨ys, us, ⟨a1, a2⟩, a3, a4, a5⟩ := key len (Nat.le_refl len)
      have hr : (elems.length + rest.length) * P.bytesOf e ≤ reachBytes := hz _ (by
        simp only [DataW.weights, ht, List.length_map]
        exact List.mem_cons_self)
      have hr2 := Nat.le_mul_of_pos_right (elems.length + rest.length) hb1
      refine ⟨ys, ⟨by rw [a1]; omega, a2⟩, rfl, ?_⟩
      simp only [RepFL, RepF]
      refine ⟨_, [], rfl, ⟨some a, cap, by simp [a1, hlc], by simp [a1], ?_⟩, rfl⟩
      by_cases h0 : len = 0
      · left
        subst h0
        exact ⟨by rw [List.map_eq_nil_iff]; exact List.eq_nil_of_length_eq_zero a1, fun h => by cases h⟩
      · right
        have hpos : 0 < us.length := by rw [a3]; exact Nat.mul_pos (by omega) hn
        have hz := a5 0 us[0] (List.getElem?_eq_getElem hpos)
        have e0 : a.add 0 = a := by simp [Addr.add]
        rw [e0] at hz
        obtain ⟨s1, s2⟩ := cell_spot hz
        obtain ⟨b, off, spot⟩ := a
        simp only at s1 s2
        subst s1
        refine ⟨b, off, us, rfl, top_fz s2, fun j u hj => ?_, a4⟩
        have := a5 j u hj
        rw [Addr.add_lit] at this
        exact this⟩
theorem Opnd.agg (h : Opnd P t n f wf) {H : Type} {enc : TypeId × Value → H} {W : World} {us : Array Value} {d : DataW H} {ps : List MemPlace} (hd : DataW.Trod enc P W 0 (fun _ => true) true t (.agg us) d ps) (hz : Sized P t d) :
    ∃ a, wf a ∧ RepV (Ctx.top W) (.agg (f a)) (.agg us) := by
  obtain ⟨fuel, hf⟩ := hd
  obtain ⟨a, h1, _, h2⟩ := h.2 H enc W fuel _ _ hf hz
  refine ⟨a, h1, ?_⟩
  simp only [RepV]
  exact ⟨us, rfl, RepFL.repL _ _ h2⟩
theorem Opnd.one {g : X → AV} (h : Opnd P t n (fun x => [g x]) wf) {H : Type} {enc : TypeId × Value → H} {W : World} {v : Value} {d : DataW H} {ps : List MemPlace} (hv : v.cells.toList = [v]) (hd : DataW.Trod enc P W 0 (fun _ => true) true t v d ps) (hz : Sized P t d) :
    ∃ a, wf a ∧ RepV (Ctx.top W) (g a) v := by
  obtain ⟨fuel, hf⟩ := hd
  obtain ⟨a, h1, _, h2⟩ := h.2 H enc W fuel _ _ hf hz
  rw [hv] at h2
  simp only [RepFL] at h2
  obtain ⟨u, r, h3, h4, rfl⟩ := h2
  simp only [List.cons.injEq] at h3
  obtain ⟨rfl, _⟩ := h3
  exact ⟨a, h1, RepF.repV _ _ h4⟩
end
end Go.Opn

namespace Go.Proofs.YtijdnjngfkohfaaGreatDoor
open Go Go.Abs Go.Opn
theorem oStr : Opnd Tryz.prog 9 1 (fun s : List UInt8 => [.str s]) (fun s => s.length ≤ reachBytes) := Opnd.str Tryz.underlying9 (by kernel_rfl)
theorem oInt : Opnd Tryz.prog 3 1 (fun z : Int => [.int .i64 z]) (fun _ => True) := (Opnd.int Tryz.underlying3 (by kernel_rfl)).map id (fun _ => rfl) (fun _ _ => trivial)
theorem oCat : Opnd Tryz.prog 32 1 (fun z : Int => [.int .i64 z]) (fun _ => True) := (Opnd.int Tryz.underlying32 (by kernel_rfl)).map id (fun _ => rfl) (fun _ _ => trivial)
theorem reach_le {n : Nat} (h : n ≤ reachBytes) : n ≤ 140737488355328 := by unfold reachBytes at h; exact Nat.le_trans h (by decide)
end Go.Proofs.YtijdnjngfkohfaaGreatDoor

namespace Go.Proofs.YtijdnjngfkohfaaGreatDoor
open Go Go.Abs
set_option linter.unusedVariables false
set_option linter.unusedSimpArgs false
def sumB {α : Type} (f : α → Nat) (l : List α) : Nat := (l.map f).sum
@[simp] theorem sumB_nil {α : Type} (f : α → Nat) : sumB f [] = 0 := rfl
@[simp] theorem sumB_cons {α : Type} (f : α → Nat) (x : α) (l : List α) : sumB f (x :: l) = f x + sumB f l := by simp [sumB]
@[simp] theorem sumB_append {α : Type} (f : α → Nat) (l m : List α) : sumB f (l ++ m) = sumB f l + sumB f m := by simp [sumB]
def szTx (x : TTxt) : Nat := x.text.length + 20
def szR (r : TRow) : Nat := 20 + sumB szTx r.texts
def szU (u : TUnt) : Nat := u.name.length + 20 + sumB szTx u.texts
def szC (c : TCur) : Nat := c.code.length + c.symbol.length + c.narrow.length + 80 + sumB szTx c.names
def szD (d : TDig) : Nat := d.d0.length + d.d1.length + d.d2.length + d.d3.length + d.d4.length + d.d5.length + d.d6.length + d.d7.length + d.d8.length + d.d9.length
def szT (t : TTab) : Nat := szD t.dg + 340 + t.minus.length + t.plus.length + t.percent.length + t.permille.length + t.point.length + t.comma.length + t.decimal.length + t.per.length + t.money.length + t.account.length + t.rules.length + t.before.cur.length + t.before.num.length + t.before.ins.length + t.after.cur.length + t.after.num.length + t.after.ins.length + sumB szR t.short + sumB szR t.long + sumB szR t.mshort + sumB szC t.curs + sumB szU t.units + sumB szTx t.munit
theorem sz_num (n : Int) : (numW n).length ≤ 10 := len_numL 10 _
theorem sz_text (s : List UInt8) : (textW s).length ≤ s.length + 10 := by have := sz_num s.length; rw [textW, List.length_append]; omega
theorem sz_flat {α : Type} {w : α → List UInt8} {f : α → Nat} (h : ∀ x, (w x).length ≤ f x) : ∀ l : List α, (l.flatMap w).length ≤ sumB f l
  | [] => by simp
  | x :: l => by
    have h1 := sz_flat h l
    have h2 := h x
    simp only [List.flatMap_cons, List.length_append, sumB_cons]
    omega
theorem sz_list {α : Type} {w : α → List UInt8} {f : α → Nat} (h : ∀ x, (w x).length ≤ f x) (l : List α) : (listW w l).length ≤ 10 + sumB f l := by
  have h1 := sz_flat h l
  have h2 := sz_num l.length
  rw [listW, List.length_append]
  omega
theorem sz_txt (x : TTxt) : (txtW x).length ≤ szTx x := by
  have h1 := sz_num x.cat
  have h2 := sz_text x.text
  rw [txtW, List.length_append, szTx]; omega
theorem sz_row (x : TRow) : (rowW x).length ≤ szR x := by
  have h1 := sz_num x.mag
  have h2 := sz_list sz_txt x.texts
  rw [rowW, List.length_append, szR]; omega
theorem sz_unt (x : TUnt) : (untW x).length ≤ szU x := by
  have h1 := sz_text x.name
  have h2 := sz_list sz_txt x.texts
  rw [untW, List.length_append, szU]; omega
theorem sz_cur (x : TCur) : (curW x).length ≤ szC x := by
  have h1 := sz_text x.code
  have h2 := sz_text x.symbol
  have h3 := sz_text x.narrow
  have h4 := sz_list sz_txt x.names
  have h5 := sz_num x.digits
  have h6 := sz_num x.inc
  have h7 := sz_num x.cashDigits
  have h8 := sz_num x.cashInc
  simp only [curW, List.length_append, szC]; omega
theorem len_app {w v : List UInt8} {a b : Nat} (h1 : w.length ≤ a) (h2 : v.length ≤ b) : (w ++ v).length ≤ a + b := by rw [List.length_append]; omega
theorem enc_le (t : TTab) : (encF t).length ≤ szT t := by
  have h := len_app (sz_text t.dg.d0) (len_app (sz_text t.dg.d1) (len_app (sz_text t.dg.d2) (len_app (sz_text t.dg.d3) (len_app (sz_text t.dg.d4) (len_app (sz_text t.dg.d5) (len_app (sz_text t.dg.d6) (len_app (sz_text t.dg.d7) (len_app (sz_text t.dg.d8) (len_app (sz_text t.dg.d9) (len_app (sz_text t.minus) (len_app (sz_text t.plus) (len_app (sz_text t.percent) (len_app (sz_text t.permille) (len_app (sz_text t.point) (len_app (sz_text t.comma) (len_app (sz_text t.decimal) (len_app (sz_text t.per) (len_app (sz_text t.money) (len_app (sz_text t.account) (len_app (sz_text t.rules) (len_app (sz_text t.before.cur) (len_app (sz_text t.before.num) (len_app (sz_text t.before.ins) (len_app (sz_text t.after.cur) (len_app (sz_text t.after.num) (len_app (sz_text t.after.ins) (len_app (sz_num t.minGroup) (len_app (sz_list sz_row t.short) (len_app (sz_list sz_row t.long) (len_app (sz_list sz_row t.mshort) (len_app (sz_list sz_cur t.curs) (len_app (sz_list sz_unt t.units) (sz_list sz_txt t.munit)))))))))))))))))))))))))))))))))
  refine Nat.le_trans h (Nat.le_of_eq ?_)
  simp only [szT, szD]
  omega
theorem turn_sz (k i : Nat) (n : Int) (s : List UInt8) (t : TTab) : szT (turnI k i n s t) ≤ szT t + 2 * s.length + 200 := by
  unfold turnI
  split
  · unfold digSet
    split <;> simp only [szT, szD] <;> omega
  all_goals simp only [szT, szD, szR, szU, szC, szTx, sumB_append, sumB_cons, sumB_nil, someT, oneT, curS, curX, List.length_cons, List.length_nil]
  all_goals omega
end Go.Proofs.YtijdnjngfkohfaaGreatDoor

namespace Go.Proofs.YtijdnjngfkohfaaGreatDoor
open Go Go.Abs
set_option linter.unusedVariables false
set_option linter.unusedSimpArgs false
theorem cats_up {l : List TTxt} {ok : Nat → Bool} (h : allB (fun i => catG l i && ok i) l.length = true) : ∀ (d i : Nat) (x y : TTxt), l[i]? = some x → l[i + d]? = some y → x.cat ≤ y.cat
  | 0, i, x, y, hx, hy => by rw [Nat.add_zero, hx] at hy; cases hy; exact Int.le_refl _
  | d + 1, i, x, y, hx, hy => by
    have hl := (List.getElem?_eq_some_iff.1 hy).1
    have h1 := allB_iff.1 h (i + (d + 1)) hl
    obtain ⟨z, hz⟩ : ∃ z, l[i + d]? = some z := ⟨_, List.getElem?_eq_getElem (by omega)⟩
    have ih := cats_up h d i x z hx hz
    have e : i + (d + 1) - 1 = i + d := by omega
    simp only [catG, hy, e, hz, Bool.and_eq_true, Bool.or_eq_true, decide_eq_true_eq] at h1
    have := h1.1.2
    omega
theorem cats_in {l : List TTxt} {ok : Nat → Bool} (h : catsF l ok = true) : ∀ x ∈ l, 0 ≤ x.cat ∧ x.cat ≤ 5 := by
  intro x hx
  obtain ⟨i, hi, rfl⟩ := List.getElem_of_mem hx
  rw [catsF, Bool.and_eq_true] at h
  have hg : l[i]? = some l[i] := List.getElem?_eq_getElem hi
  have h1 := allB_iff.1 h.2 i hi
  simp only [catG, hg, Bool.and_eq_true, decide_eq_true_eq] at h1
  refine ⟨h1.1.1, ?_⟩
  have h2 := h.1
  rw [lastC, List.getLast?_eq_getElem?] at h2
  have hl : l[l.length - 1]? = some l[l.length - 1] := List.getElem?_eq_getElem (by omega)
  rw [hl] at h2
  have h3 : l[l.length - 1].cat = 5 := by simpa using h2
  have h4 := cats_up h.2 (l.length - 1 - i) i l[i] l[l.length - 1] hg (by rw [show i + (l.length - 1 - i) = l.length - 1 by omega]; exact hl)
  omega
theorem two63 : (2 : Int) ^ 63 = 9223372036854775808 := by decide
theorem cats_pos {l : List TTxt} {ok : Nat → Bool} (h : catsF l ok = true) : posT l := fun x hx => by
  have := cats_in h x hx
  have h2 := two63
  exact ⟨this.1, by omega⟩
theorem in_pos {n lo hi : Int} (h : inF n lo hi = true) (h0 : 0 ≤ lo) (h1 : hi ≤ 1000000000) : posN n := by
  have h2 := two63
  have h3 : lo ≤ n ∧ n ≤ hi := by simpa [inF] using h
  exact ⟨by omega, by omega⟩
theorem rows_pos {l : List TRow} {cur : Int} (h : rowsF l cur = true) : posR l := fun x hx => by
  obtain ⟨i, hi, rfl⟩ := List.getElem_of_mem hx
  have hg : l[i]? = some l[i] := List.getElem?_eq_getElem hi
  rw [rowsF, Bool.and_eq_true] at h
  have h1 := allB_iff.1 h.2 i hi
  simp only [rowP, hg, Bool.and_eq_true] at h1
  have h2 := h1.1
  rw [rowB, Bool.and_eq_true] at h2
  exact ⟨in_pos h2.1 (by decide) (by decide), cats_pos h2.2⟩
theorem money_pos {c : TCur} (h : moneyB c = true) : posT c.names ∧ posN c.digits ∧ posN c.inc ∧ posN c.cashDigits ∧ posN c.cashInc := by
  simp only [moneyB, Bool.and_eq_true, Bool.or_eq_true] at h
  obtain ⟨_, _, _, h1, h2, h3, h4, h5⟩ := h
  refine ⟨?_, in_pos h2 (by decide) (by decide), in_pos h4 (by decide) (by decide), in_pos h3 (by decide) (by decide), in_pos h5 (by decide) (by decide)⟩
  rcases h1 with h1 | h1
  · have : c.names = [] := by simpa using h1
    rw [this]
    exact fun x hx => by cases hx
  · exact cats_pos h1
theorem check_fine {t : TTab} (h : checkF t = 0) : setF t.dg.list = true ∧ ckSign t = true ∧ ckPoint t = true ∧ inF t.minGroup 1 4 = true ∧ ckPat t = true ∧ ckRules t = true ∧ ckRow t = true ∧ ckCur t = true ∧ ckUnit t = true ∧
    catsF t.munit (plcK 2 t.munit) = true ∧ ckSpc t = true := by
  unfold checkF at h
  repeat' split at h
  all_goals first
    | (exfalso; revert h; decide)
    | simp_all
theorem check_pos {t : TTab} (h : checkF t = 0) : t.pos := by
  obtain ⟨_, _, _, hG, _, _, hR, hC, hU, hM, _⟩ := check_fine h
  simp only [ckRow, Bool.and_eq_true] at hR
  simp only [ckCur, Bool.and_eq_true] at hC
  simp only [ckUnit, Bool.and_eq_true] at hU
  refine ⟨in_pos hG (by decide) (by decide), rows_pos hR.1, rows_pos hR.2.1, rows_pos hR.2.2, cats_pos hM, fun c hc => ?_, fun u hu => ?_⟩
  · obtain ⟨i, hi, rfl⟩ := List.getElem_of_mem hc
    have hg : t.curs[i]? = some t.curs[i] := List.getElem?_eq_getElem hi
    have h1 := allB_iff.1 hC.2 i hi
    simp only [curP, hg, Bool.and_eq_true] at h1
    exact money_pos h1.1
  · obtain ⟨i, hi, rfl⟩ := List.getElem_of_mem hu
    have hg : t.units[i]? = some t.units[i] := List.getElem?_eq_getElem hi
    have h1 := allB_iff.1 hU.2 i hi
    simp only [untP, hg, Bool.and_eq_true] at h1
    exact cats_pos h1.2.1
theorem base_sz (n : Int) : szT (baseF n) ≤ 5000 := by
  unfold baseF
  split
  · decide
  · split <;> decide
theorem own_turn {n w1 n1 w2 n2 : Int} {s1 s2 : List UInt8} (h1 : s1.length ≤ 150) (h2 : s2.length ≤ 150) (h : checkF (turnF w2 n2 s2 (turnF w1 n1 s1 (baseF n))) = 0) :
    decF (encF (turnF w2 n2 s2 (turnF w1 n1 s1 (baseF n)))) = (turnF w2 n2 s2 (turnF w1 n1 s1 (baseF n)), 0) := by
  refine dec_enc (check_pos h) ?_
  have e1 := enc_le (turnF w2 n2 s2 (turnF w1 n1 s1 (baseF n)))
  have e2 := turn_sz (twk w2) (twi n2) n2 s2 (turnF w1 n1 s1 (baseF n))
  have e3 := turn_sz (twk w1) (twi n1) n1 s1 (baseF n)
  have e4 := base_sz n
  rw [turnF] at e1 ⊢
  rw [turnF] at e1 e2 ⊢
  omega
theorem own_turn1 {n w1 n1 : Int} {s1 : List UInt8} (h1 : s1.length ≤ 150) (h : checkF (turnF w1 n1 s1 (baseF n)) = 0) :
    decF (encF (turnF w1 n1 s1 (baseF n))) = (turnF w1 n1 s1 (baseF n), 0) := by
  refine dec_enc (check_pos h) ?_
  have e1 := enc_le (turnF w1 n1 s1 (baseF n))
  have e3 := turn_sz (twk w1) (twi n1) n1 s1 (baseF n)
  have e4 := base_sz n
  rw [turnF] at e1 ⊢
  omega
theorem own_base {n : Int} (h : checkF (baseF n) = 0) : decF (encF (baseF n)) = (baseF n, 0) :=
  dec_enc (check_pos h) (by have := enc_le (baseF n); have := base_sz n; omega)
end Go.Proofs.YtijdnjngfkohfaaGreatDoor

namespace Go.Proofs.YtijdnjngfkohfaaGreatDoor
open Go Go.Abs
set_option linter.unusedVariables false
set_option linter.unusedSimpArgs false
def lstV : AV → List (List AV)
  | .fsl es => es
  | _ => []
def pdV (v : PatV) : PD := ⟨lstV (affV v).a, lstV (affV v).b, lstV (affV v).c, lstV (affV v).d, v.two, v.N⟩
def patP (s : List UInt8) : PD := match parE s with
  | .ok v => pdV v
  | .error _ => pd0
def cpaP (s : List UInt8) : CD := match cpaE s with
  | .ok v => ⟨v.N.mi, noopF v, pdV v⟩
  | .error _ => cd0
def brzP (n : Int) (s : List UInt8) : List (List AV) × List (List AV) := match braF s n with
  | .ok (ts, ps) => (strEs ts, natEs ps)
  | .error _ => ([], [])
def clsP (s : List UInt8) : List (List AV) := match clsF s with
  | .ok c => rgEs c
  | .error _ => []
def cpaB (l : List TTxt) : BC CD := byC cd0 cpaP l
def brzB (n : Int) (l : List TTxt) : BC (List (List AV) × List (List AV)) := byC ([], []) (brzP n) l
def strB (l : List TTxt) : BC (List UInt8) := byC [] id l
def shiftC (q : CD) (mag : Int) : Int := if q.nb then 0 else IntKind.i64.wrap (IntKind.i64.wrap (mag - q.z) + 1)
def lrE (r : TRow) : List AV := [.int .i64 r.mag, .int .i64 (shiftC (getC (cpaB r.texts) 5) r.mag), .bool (getC (cpaB r.texts) 5).nb, .fptr (bcC CD.cells (cpaB r.texts))]
def lrL (l : List TRow) : AV := .fsl (l.map lrE)
def lspC (x : TSpc) : List AV := [.fsl (clsP x.cur), .fsl (clsP x.num), .str x.ins]
def unitV (u : TUnt) : AV := .fptr (bcC encB (brzB 1 u.texts))
def curV (c : TCur) : AV := .fptr (bcC encS1 (strB c.names))
def locC (o t : TTab) : List AV :=
  tabC o ++ (patP t.decimal).cells ++ (patP t.per).cells ++ (patP t.money).cells ++ (patP t.account).cells ++ [.fsl ((rulP t.rules).1.map encRul), lrL t.short, lrL t.long, lrL t.mshort] ++ lspC t.before ++ lspC t.after ++
  [.fmap (mapG (·.name) unitV [] t.units), .fmap (mapG (·.code) curV [] (t.curs.filter fun c => decide (c.names ≠ []))), .fptr (bcC encB (brzB 2 t.munit))]
def newF (t : TTab) : AV := if checkF t = 0 then .tuple [.fptr (locC (decF (encF t)).1 t), .int .i64 0] else .tuple [.nilp, .int .i64 5]
def loadF (s : List UInt8) : AV := if (decF s).2 = 0 then newF (decF s).1 else .tuple [.nilp, .int .i64 5]
end Go.Proofs.YtijdnjngfkohfaaGreatDoor

namespace Go.Proofs.YtijdnjngfkohfaaGreatDoor
open Go Go.Abs
set_option linter.unusedVariables false
set_option linter.unusedSimpArgs false
def hasO (l : List TTxt) : Prop := (∀ x ∈ l, 0 ≤ x.cat ∧ x.cat ≤ 5) ∧ (l.any fun x => decide (x.cat = 5)) = true
theorem cats_has {l : List TTxt} {ok : Nat → Bool} (h : catsF l ok = true) : hasO l := by
  refine ⟨cats_in h, ?_⟩
  rw [catsF, Bool.and_eq_true] at h
  have h1 := h.1
  rw [lastC] at h1
  cases hl : l.getLast? with
  | none => rw [hl] at h1; cases h1
  | some x =>
    rw [hl] at h1
    exact List.any_eq_true.2 ⟨x, List.mem_of_getLast? hl, h1⟩
theorem has_get {α : Type} (z : α) (read : List UInt8 → α) {l : List TTxt} (h : hasO l) (c : Int) : getC (byC z read l) c = read (txtF l c) := byC_get z read h.1 h.2 c
theorem fine_curs {t : TTab} (h : checkF t = 0) : Ris (t.curs.map (·.code)) ∧ ∀ c ∈ t.curs, c.names = [] ∨ hasO c.names := by
  obtain ⟨_, _, _, _, _, _, _, hC, _, _, _⟩ := check_fine h
  rw [ckCur, Bool.and_eq_true] at hC
  have hc := allB_iff.1 hC.2
  constructor
  · refine ris_of fun i x y hx hy => ?_
    rw [List.getElem?_map] at hx hy
    cases h1 : t.curs[i]? with
    | none => rw [h1] at hx; cases hx
    | some a =>
      cases h2 : t.curs[i + 1]? with
      | none => rw [h2] at hy; cases hy
      | some b =>
        rw [h1] at hx
        rw [h2] at hy
        cases hx
        cases hy
        have hl := (List.getElem?_eq_some_iff.1 h2).1
        have := hc (i + 1) hl
        simp only [curP, h2, Nat.add_sub_cancel, h1, Bool.and_eq_true, Bool.or_eq_true, decide_eq_true_eq] at this
        exact this.2.resolve_left (by omega)
  · intro c hm
    obtain ⟨i, hi, rfl⟩ := List.getElem_of_mem hm
    have hg : t.curs[i]? = some t.curs[i] := List.getElem?_eq_getElem hi
    have h1 := hc i hi
    simp only [curP, hg, Bool.and_eq_true] at h1
    have h2 := h1.1
    simp only [moneyB, Bool.and_eq_true, Bool.or_eq_true] at h2
    rcases h2.2.2.2.1 with h3 | h3
    · exact .inl (of_decide_eq_true h3)
    · exact .inr (cats_has h3)
theorem fine_units {t : TTab} (h : checkF t = 0) : Ris (t.units.map (·.name)) ∧ ∀ u ∈ t.units, hasO u.texts := by
  obtain ⟨_, _, _, _, _, _, _, _, hU, _, _⟩ := check_fine h
  rw [ckUnit, Bool.and_eq_true] at hU
  have hc := allB_iff.1 hU.2
  constructor
  · refine ris_of fun i x y hx hy => ?_
    rw [List.getElem?_map] at hx hy
    cases h1 : t.units[i]? with
    | none => rw [h1] at hx; cases hx
    | some a =>
      cases h2 : t.units[i + 1]? with
      | none => rw [h2] at hy; cases hy
      | some b =>
        rw [h1] at hx
        rw [h2] at hy
        cases hx
        cases hy
        have hl := (List.getElem?_eq_some_iff.1 h2).1
        have := hc (i + 1) hl
        simp only [untP, h2, Nat.add_sub_cancel, h1, Bool.and_eq_true, Bool.or_eq_true, decide_eq_true_eq] at this
        exact this.2.2.resolve_left (by omega)
  · intro u hm
    obtain ⟨i, hi, rfl⟩ := List.getElem_of_mem hm
    have hg : t.units[i]? = some t.units[i] := List.getElem?_eq_getElem hi
    have h1 := hc i hi
    simp only [untP, hg, Bool.and_eq_true] at h1
    exact cats_has h1.2.1
theorem fine_munit {t : TTab} (h : checkF t = 0) : hasO t.munit := by
  obtain ⟨_, _, _, _, _, _, _, _, _, hM, _⟩ := check_fine h
  exact cats_has hM
theorem fine_rows {l : List TRow} {cur : Int} (h : rowsF l cur = true) : ∀ r ∈ l, hasO r.texts := by
  intro r hr
  obtain ⟨i, hi, rfl⟩ := List.getElem_of_mem hr
  have hg : l[i]? = some l[i] := List.getElem?_eq_getElem hi
  rw [rowsF, Bool.and_eq_true] at h
  have h1 := allB_iff.1 h.2 i hi
  simp only [rowP, hg, Bool.and_eq_true] at h1
  have h2 := h1.1
  rw [rowB, Bool.and_eq_true] at h2
  exact cats_has h2.2
theorem unit_some {t : TTab} (h : checkF t = 0) {u : TUnt} (hu : u ∈ t.units) : lookM (mapG (·.name) unitV [] t.units) u.name = some (unitV u) :=
  mapG_some (fun u : TUnt => u.name) unitV t.units [] rfl hu (fun x hx e => ris_inj (fine_units h).1 x hx u hu e)
theorem unit_none {t : TTab} {s : List UInt8} (h : ∀ u ∈ t.units, u.name ≠ s) : lookM (mapG (·.name) unitV [] t.units) s = none :=
  mapG_none (fun u : TUnt => u.name) unitV s t.units [] rfl h
theorem name_some {t : TTab} (h : checkF t = 0) {c : TCur} (hc : c ∈ t.curs) (hn : c.names ≠ []) :
    lookM (mapG (·.code) curV [] (t.curs.filter fun c => decide (c.names ≠ []))) c.code = some (curV c) :=
  mapG_some (fun c : TCur => c.code) curV _ [] rfl (List.mem_filter.2 ⟨hc, by simpa using hn⟩) (fun x hx e => ris_inj (fine_curs h).1 x (List.mem_filter.1 hx).1 c hc e)
theorem name_none {t : TTab} (h : checkF t = 0) {s : List UInt8} (hs : ∀ c ∈ t.curs, c.code = s → c.names = []) :
    lookM (mapG (·.code) curV [] (t.curs.filter fun c => decide (c.names ≠ []))) s = none :=
  mapG_none (fun c : TCur => c.code) curV s _ [] rfl (fun x hx e => by
    have := (List.mem_filter.1 hx).2
    rw [hs x (List.mem_filter.1 hx).1 e] at this
    simp at this)
end Go.Proofs.YtijdnjngfkohfaaGreatDoor

namespace Go.Proofs.YtijdnjngfkohfaaGreatDoor
open Go Go.Abs
set_option linter.unusedVariables false
theorem checkB_0 : checkF base0 = 0 := by kernel_rfl
theorem checkB_1 : checkF base1 = 0 := by kernel_rfl
theorem checkB_2 : checkF base2 = 0 := by kernel_rfl
def fewQ (n : Nat) : Bool := Nat.ble n 40000
def txtQ (l : List TTxt) : Bool := fewQ l.length && l.all fun x => fewQ x.text.length
def rowQ (l : List TRow) : Bool := fewQ l.length && l.all fun r => txtQ r.texts
def strQ (t : TTab) : Bool := (t.dg.list ++ [t.minus, t.plus, t.percent, t.permille, t.point, t.comma, t.decimal, t.per, t.money, t.account, t.rules, t.before.cur, t.before.num, t.before.ins, t.after.cur, t.after.num, t.after.ins]).all fun s => fewQ s.length
def fitsQ (t : TTab) : Bool := strQ t && (rowQ t.short && (rowQ t.long && (rowQ t.mshort && (txtQ t.munit && ((fewQ t.curs.length && t.curs.all fun c => fewQ c.code.length && (fewQ c.symbol.length && (fewQ c.narrow.length && txtQ c.names))) && (fewQ t.units.length && t.units.all fun u => fewQ u.name.length && txtQ u.texts))))))
theorem fewQ_lt {n : Nat} (h : fewQ n = true) : n < 50000 := by have := Nat.le_of_ble_eq_true h; omega
theorem txtQ_fits {l : List TTxt} (h : txtQ l = true) : txtFits l := by
  rw [txtQ, Bool.and_eq_true] at h
  exact ⟨fewQ_lt h.1, fun x hx => fewQ_lt (List.all_eq_true.1 h.2 x hx)⟩
theorem rowQ_fits {l : List TRow} (h : rowQ l = true) : l.length < 50000 ∧ ∀ r ∈ l, r.fits := by
  rw [rowQ, Bool.and_eq_true] at h
  refine ⟨fewQ_lt h.1, fun r hr => ?_⟩
  have := txtQ_fits (List.all_eq_true.1 h.2 r hr)
  exact ⟨by have := this.1; omega, fun x hx => by have := this.2 x hx; omega⟩
theorem fitsQ_fits {t : TTab} (h : fitsQ t = true) : t.fits := by
  simp only [fitsQ, Bool.and_eq_true] at h
  obtain ⟨hS, hs, hl, hm, hu, ⟨hc, hcs⟩, hn, hns⟩ := h
  have st := fun s hs => fewQ_lt (List.all_eq_true.1 hS s hs)
  refine ⟨fun x hx => st x (List.mem_append_left _ hx), st _ (by simp), st _ (by simp), st _ (by simp), st _ (by simp), st _ (by simp), st _ (by simp), st _ (by simp), st _ (by simp), st _ (by simp), st _ (by simp), st _ (by simp), rowQ_fits hs, rowQ_fits hl, rowQ_fits hm,
    ⟨fewQ_lt hc, fun c hm => ?_⟩, ⟨fewQ_lt hn, fun u hm => ?_⟩, txtQ_fits hu, ⟨st _ (by simp), st _ (by simp), st _ (by simp)⟩, ⟨st _ (by simp), st _ (by simp), st _ (by simp)⟩⟩
  · have := List.all_eq_true.1 hcs c hm
    simp only [Bool.and_eq_true] at this
    exact ⟨fewQ_lt this.1, fewQ_lt this.2.1, fewQ_lt this.2.2.1, txtQ_fits this.2.2.2⟩
  · have := List.all_eq_true.1 hns u hm
    simp only [Bool.and_eq_true] at this
    exact ⟨fewQ_lt this.1, txtQ_fits this.2⟩
theorem fitsB_0 : base0.fits := fitsQ_fits (by kernel_rfl)
theorem fitsB_1 : base1.fits := fitsQ_fits (by kernel_rfl)
theorem fitsB_2 : base2.fits := fitsQ_fits (by kernel_rfl)
theorem belB_0 : base0.below = true := by kernel_rfl
theorem belB_1 : base1.below = true := by kernel_rfl
theorem belB_2 : base2.below = true := by kernel_rfl
theorem encB_0 : Nat.ble (encF base0).length 65536 = true := by kernel_rfl
theorem encB_1 : Nat.ble (encF base1).length 65536 = true := by kernel_rfl
theorem encB_2 : Nat.ble (encF base2).length 65536 = true := by kernel_rfl
theorem baseF_three (n : Int) : baseF n = base0 ∨ baseF n = base1 ∨ baseF n = base2 := by
  unfold baseF
  split
  · exact .inr (.inl rfl)
  split
  · exact .inr (.inr rfl)
  · exact .inl rfl
theorem checkB (n : Int) : checkF (baseF n) = 0 := by
  rcases baseF_three n with h | h | h <;> rw [h]
  · exact checkB_0
  · exact checkB_1
  · exact checkB_2
theorem fitsB (n : Int) : (baseF n).fits := by
  rcases baseF_three n with h | h | h <;> rw [h]
  · exact fitsB_0
  · exact fitsB_1
  · exact fitsB_2
theorem belB (n : Int) : (baseF n).below = true := by
  rcases baseF_three n with h | h | h <;> rw [h]
  · exact belB_0
  · exact belB_1
  · exact belB_2
theorem encB_le (n : Int) : (encF (baseF n)).length ≤ 65536 := by
  rcases baseF_three n with h | h | h <;> rw [h]
  · exact Nat.le_of_ble_eq_true encB_0
  · exact Nat.le_of_ble_eq_true encB_1
  · exact Nat.le_of_ble_eq_true encB_2
end Go.Proofs.YtijdnjngfkohfaaGreatDoor
