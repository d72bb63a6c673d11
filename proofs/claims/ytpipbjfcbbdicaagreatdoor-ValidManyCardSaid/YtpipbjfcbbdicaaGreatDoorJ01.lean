/- Sorting ranges: the row, its elements, the comparison, the reversal. -/
import Derived.Test.YtpipbjfcbbdicaaGreatDoorTy
import Derived.Test.YtpipbjfcbbdicaaGreatDoorShelf
import Derived.Test.YtpipbjfcbbdicaaGreatDoorAbsC
import Derived.ChangeArms
import Derived.OpenShut
import Derived.Carry
import Derived.WideShapes
import Derived.Sort.AssemblyPlain
set_option linter.unusedVariables false
set_option linter.unusedSimpArgs false
set_option maxRecDepth 100000
set_option maxHeartbeats 4000000

namespace Go.Proofs.YtpipbjfcbbdicaaGreatDoor
open Go Go.Abs

def firstCells : List AV := (List.range 256).map fun c => .int .u8 (Lib.firstT c)
def acceptCells : List AV := (List.range 16).flatMap fun i => [.int .u8 (Lib.accLo i), .int .u8 (Lib.accHi i)]
/-- The library's variables that are read. -/
def GL (m : Int) : Globs := [(0, firstCells), (1, acceptCells), (5, [.int .i64 m])]
theorem rep_ints {C : Ctx} : ∀ {l : List (IntKind × Int)} {us : List Value}, RepFL C (l.map fun x => .int x.1 x.2) us → us = l.map fun x => .int x.1 x.2
  | [], us, h => by simpa [RepFL] using h
  | x :: l, us, h => by
    simp only [List.map_cons, RepFL, RepF] at h
    obtain ⟨u, r, rfl, rfl, h⟩ := h
    rw [rep_ints h]; rfl
theorem tabs {C : Ctx} {m : Int} (hg : Abs.Good (GL m) C) : Lib.Utf8Tabs 0 1 C.w := by
  obtain ⟨us, _, h2, h3⟩ := hg.glob (0, firstCells) (by simp [GL])
  obtain ⟨vs, _, k2, k3⟩ := hg.glob (1, acceptCells) (by simp [GL])
  have e1 : firstCells = ((List.range 256).map fun c => (IntKind.u8, ((Lib.firstT c : Nat) : Int))).map fun x => AV.int x.1 x.2 := by unfold firstCells; rw [List.map_map]; rfl
  have e2 : acceptCells = ((List.range 16).flatMap fun i => [(IntKind.u8, ((Lib.accLo i : Nat) : Int)), (IntKind.u8, ((Lib.accHi i : Nat) : Int))]).map fun x => AV.int x.1 x.2 := by
    unfold acceptCells; rw [List.map_flatMap]; rfl
  rw [e1] at h3
  rw [e2] at k3
  have f1 := rep_ints h3
  have f2 := rep_ints k3
  refine ⟨fun c hc => ?_, fun i hi => ⟨?_, ?_⟩⟩
  · have := h2 c (.int .u8 (Lib.firstT c)) (by rw [f1]; simp [hc])
    simpa using this
  · have : vs[2 * i]? = some (.int .u8 (Lib.accLo i)) := by
      rw [f2]; clear f1 f2 e1 e2 h3 k3 k2 h2
      have : ∀ i < 16, (((List.range 16).flatMap fun i => [(IntKind.u8, ((Lib.accLo i : Nat) : Int)), (IntKind.u8, ((Lib.accHi i : Nat) : Int))]))[2 * i]? = some (IntKind.u8, ((Lib.accLo i : Nat) : Int)) := by decide
      rw [List.getElem?_map, this i hi]; rfl
    have := k2 _ _ this
    simpa using this
  · have : vs[2 * i + 1]? = some (.int .u8 (Lib.accHi i)) := by
      rw [f2]; clear f1 f2 e1 e2 h3 k3 k2 h2
      have : ∀ i < 16, (((List.range 16).flatMap fun i => [(IntKind.u8, ((Lib.accLo i : Nat) : Int)), (IntKind.u8, ((Lib.accHi i : Nat) : Int))]))[2 * i + 1]? = some (IntKind.u8, ((Lib.accHi i : Nat) : Int)) := by decide
      rw [List.getElem?_map, this i hi]; rfl
    have := k2 _ _ this
    simpa using this

theorem HasPrefix_does (G : Globs) (s t : List UInt8) : Does Tryz.prog G 84 [.str s, .str t] [] fun ae _ => ae = .ret (.bool (t.isPrefixOf s)) :=
  Does.of_calls (v := .bool (t.isPrefixOf s)) Tryz.func84 rfl rfl (fun C => by simp [RepF]) fun C cargs hg hr => by
    rw [rep_str2 hr]
    refine (Tryz.strings_HasPrefix _ _ C.w).mono ?_
    rintro e w' ⟨rfl, rfl⟩
    exact ⟨rfl, below_same _⟩
theorem IndexByte_does (G : Globs) (s : List UInt8) (c : Int) : Does Tryz.prog G 155 [.str s, .int .u8 c] [] fun ae _ => ae = .ret (.int .i64 (Lib.indexByte s c.toNat.toUInt8)) :=
  Does.of_calls (v := .int .i64 (Lib.indexByte s c.toNat.toUInt8)) Tryz.func155 rfl rfl (fun C => by simp [RepF]) fun C cargs hg hr => by
    rw [rep_strint hr]
    refine (Tryz.strings_IndexByte _ _ C.w).mono ?_
    rintro e w' ⟨rfl, rfl⟩
    exact ⟨rfl, below_same _⟩
/-- A text's first code point, and its bytes. -/
def dec (s : List UInt8) : Nat × Nat := Lib.decodeGo ⟨⟨s⟩⟩
theorem Decode_does (m : Int) (s : List UInt8) : Does Tryz.prog (GL m) 113 [.str s] [] fun ae _ => ae = .ret (.tuple [.int .i32 (dec s).1, .int .i64 (dec s).2]) :=
  Does.of_calls (v := .tuple #[.int .i32 (dec s).1, .int .i64 (dec s).2]) Tryz.func113 rfl rfl (fun C => by simp [RepF, RepFL]) fun C cargs hg hr => by
    rw [rep_str1 hr]
    refine (Tryz.utf8_DecodeRuneInString _ C.w (tabs hg)).mono ?_
    rintro e w' ⟨rfl, hb⟩
    exact ⟨rfl, hb⟩
theorem NoEscape_does {G : Globs} (v : Nat) (o : AObj) (rest : AHeap) : Does Tryz.prog G 109 [.ptr 0 v 0 0] (some o :: rest) fun ae O => ae = .ret (.ptr 0 v 0 0) ∧ O = some o :: rest := by
  intro C cargs hg hs hr
  have hr' := hr
  simp only [RepL] at hr
  obtain ⟨u, r, rfl, hu, rfl⟩ := hr
  unfold CallsF
  rw [run_callFunc_extern Tryz.func109 (by kernel_rfl) (by kernel_rfl) (by kernel_rfl) (e := Extern.AbiNoEscape.same) (by kernel_rfl), Lib.run_noEscape]
  exact ⟨.ret (.ptr 0 v 0 0), C, rfl, hg, Ext.refl C, by rw [hs], ⟨rfl, hs⟩, hu⟩
section
attribute [local irreducible] DrawW CallW RetW AC Does CmpW
variable {G : Globs}
theorem copyCheck_bld {v rv : Nat} {a : AV} (l : List UInt8) (ha : Self 0 v a) : Does Tryz.prog G 80 [.ptr 0 v 0 0] [some (bldO 94 v a (.sl 1 rv)), some ⟨rv, 5, 1, byteEs' l⟩] fun ae O => ae = .ret (.tuple []) ∧ ∃ rv', O = [some (bldO 94 v (.ptr 0 v 0 0) (.sl 1 rv')), some ⟨rv', 5, 1, byteEs' l⟩] := by
  refine Does.body tab Tryz.func80 rfl rfl ?_
  cases ha with
  | nil =>
    refine gos ?_
    refine CallW.ofN [0, 1] (as' := [.ptr 0 v 0 0]) (NoEscape_does v (bldO 94 v .nilp (.sl 1 rv)) [some ⟨rv, 5, 1, byteEs' l⟩]) ?_ rfl rfl ?_
    · exact hands_bld (by decide) .nil rfl rfl rfl
    rintro ae O ⟨rfl, rfl⟩ _
    simp only [putR, ren, Option.map_some, renO_bytes]
    refine gos ?_
    refine RetW.plain (by simp) ?_
    exact ⟨rfl, rv, rfl⟩
  | at_ =>
    refine gos ?_
    refine RetW.plain (by simp) ?_
    exact ⟨rfl, rv, rfl⟩
theorem WriteByte_does {v rv : Nat} {a : AV} (l : List UInt8) (ha : Self 0 v a) (c : UInt8) (hl : l.length < 4294967296) : Does Tryz.prog G 53 [.ptr 0 v 0 0, .int .u8 c.toNat] [some (bldO 94 v a (.sl 1 rv)), some ⟨rv, 5, 1, byteEs' l⟩] fun ae O => ae = .ret .nili ∧ ∃ rv', O = [some (bldO 94 v (.ptr 0 v 0 0) (.sl 1 rv')), some ⟨rv', 5, 1, byteEs' (l ++ [c])⟩] := by
  refine Does.body tab Tryz.func53 rfl rfl ?_
  refine gos ?_
  refine CallW.bldW (by decide) ha rfl rfl (fun a' h => copyCheck_bld l h) rfl rfl (fun rv' => ?_)
  refine gos ?_
  intro v3
  refine gos ?_
  refine And.intro (And.intro (fun y hy => by rcases List.mem_singleton.1 hy with rfl; rfl) (fun y hy => by rcases List.mem_singleton.1 hy with rfl; rfl)) ?_
  refine And.intro (And.intro rfl trivial) ?_
  refine gos ?_
  refine And.intro (by simp [byteEs', maxLen, ti5]; omega) ?_
  intro v4
  refine gos ?_
  refine RetW.plain (by simp) ?_
  exact ⟨rfl, v4, by simp [byteEs']; rfl⟩
theorem WriteString_does {v rv : Nat} {a : AV} (l : List UInt8) (ha : Self 0 v a) (s : List UInt8) (hl : l.length + s.length < 4294967296) : Does Tryz.prog G 54 [.ptr 0 v 0 0, .str s] [some (bldO 94 v a (.sl 1 rv)), some ⟨rv, 5, 1, byteEs' l⟩] fun ae O => ae = .ret (.tuple [.int .i64 s.length, .nili]) ∧ ∃ rv', O = [some (bldO 94 v (.ptr 0 v 0 0) (.sl 1 rv')), some ⟨rv', 5, 1, byteEs' (l ++ s)⟩] := by
  refine Does.body tab Tryz.func54 rfl rfl ?_
  refine gos ?_
  refine CallW.bldW (by decide) ha rfl rfl (fun a' h => copyCheck_bld l h) rfl rfl (fun rv' => ?_)
  refine gos ?_
  refine And.intro (by simp [byteEs']; omega) ?_
  intro v4
  refine gos ?_
  refine RetW.plain (by simp) ?_
  exact ⟨rfl, v4, by simp [byteEs']; rfl⟩
theorem String_bld {v rv : Nat} {a : AV} (l : List UInt8) (ha : Self 0 v a) : Does Tryz.prog G 56 [.ptr 0 v 0 0] [some (bldO 94 v a (.sl 1 rv)), some ⟨rv, 5, 1, byteEs' l⟩] fun ae O => ae = .ret (.str l) ∧ O = [some (bldO 94 v a (.sl 1 rv)), none] :=
  String_does Tryz.lays169 Tryz.Builder_Extra_169 (G := G) Tryz.func56 rfl rfl l []
end
end Go.Proofs.YtpipbjfcbbdicaaGreatDoor

namespace Go.Opn
open Go Go.Abs

theorem RepFL.append {C : Ctx} : ∀ {xs ys : List AV} {us vs : List Value}, RepFL C xs us → RepFL C ys vs → RepFL C (xs ++ ys) (us ++ vs)
  | [], ys, us, vs, h, k => by simp only [RepFL] at h; subst h; simpa using k
  | a :: xs, ys, us, vs, h, k => by
    simp only [RepFL] at h
    obtain ⟨x, r, rfl, h1, h2⟩ := h
    simp only [List.cons_append, RepFL]
    exact ⟨x, _, rfl, h1, RepFL.append h2 k⟩
theorem RepFLL.snoc {C : Ctx} : ∀ {es : List (List AV)} {e : List AV} {us vs : List Value}, RepFLL C es us → RepFL C e vs → RepFLL C (es ++ [e]) (us ++ vs)
  | [], e, us, vs, h, k => by simp only [RepFLL] at h; subst h; simp only [List.nil_append, RepFLL]; exact ⟨vs, [], by simp, k, rfl⟩
  | a :: es, e, us, vs, h, k => by
    simp only [RepFLL] at h
    obtain ⟨p, r, rfl, h1, h2⟩ := h
    simp only [List.cons_append, RepFLL]
    exact ⟨p, _, by simp, h1, RepFLL.snoc h2 k⟩

/-- Each string and slice of what was read lies within a process's reach. -/
def Sized {H : Type} (P : Program) (t : TypeId) (d : DataW H) : Prop := ∀ w ∈ d.weights P t, w ≤ reachBytes
theorem weightsAll_mem {H : Type} {P : Program} {e : TypeId} {d : DataW H} {w : Nat} : ∀ {ds : List (DataW H)}, d ∈ ds → w ∈ d.weights P e → w ∈ DataW.weightsAll P e ds
  | a :: r, h, hw => by
    simp only [DataW.weightsAll, List.mem_append]
    rcases List.mem_cons.1 h with rfl | h
    · exact .inl hw
    · exact .inr (weightsAll_mem h hw)
theorem weightsEach_mem {H : Type} {P : Program} {t : TypeId} {d : DataW H} {w : Nat} : ∀ {ts : List TypeId} {ds : List (DataW H)} {i : Nat}, ts[i]? = some t → ds[i]? = some d → w ∈ d.weights P t → w ∈ DataW.weightsEach P ts ds
  | a :: r, b :: q, i, h, k, hw => by
    simp only [DataW.weightsEach, List.mem_append]
    rcases i with _ | i
    · simp only [List.getElem?_cons_zero, Option.some.injEq] at h k
      subst h; subst k
      exact .inl hw
    · simp only [List.getElem?_cons_succ] at h k
      exact .inr (weightsEach_mem h k hw)
theorem Sized.of_each {H : Type} {P : Program} {ts : List TypeId} {ds : List (DataW H)} (h : (DataW.weightsEach P ts ds).all (· ≤ reachBytes) = true) {i : Nat} {t : TypeId} {d : DataW H} (ht : ts[i]? = some t) (hd : ds[i]? = some d) : Sized P t d := fun w hw => by
  have := List.all_eq_true.1 h w (weightsEach_mem ht hd hw)
  simpa using this

/-- What a type's values read as. -/
def Opnd (P : Program) (t : TypeId) {X : Type} (n : Nat) (f : X → List AV) (wf : X → Prop) : Prop :=
  P.cellsOf t = n ∧ ∀ (H : Type) (enc : TypeId × Value → H) (W : World) (fuel : Nat) (cs : List Value) (x : DataW H × List MemPlace),
    DataW.trod enc P W 0 (fun _ => true) true fuel t cs = some x → Sized P t x.1 → ∃ a : X, wf a ∧ (f a).length = n ∧ RepFL (Ctx.top W) (f a) cs

section
variable {P : Program} {t e : TypeId} {X Y : Type} {n m : Nat} {f : X → List AV} {wf : X → Prop}

theorem Opnd.int {k : IntKind} (ht : P.underlying t = some (.int k)) (hc : P.cellsOf t = 1) : Opnd P t 1 (fun z : Int => [.int k z]) (fun z => (Lit.int k z).wf = true) :=
  ⟨hc, fun H enc W fuel cs x h _ => by
    obtain ⟨z, rfl, _, hw⟩ := DataW.trod_int ht h
    exact ⟨z, hw, rfl, by simp [RepFL, RepF]⟩⟩
theorem Opnd.bool (ht : P.underlying t = some .bool) (hc : P.cellsOf t = 1) : Opnd P t 1 (fun z : Bool => [.bool z]) (fun _ => True) :=
  ⟨hc, fun H enc W fuel cs x h _ => by
    obtain ⟨z, rfl, _⟩ := DataW.trod_bool ht h
    exact ⟨z, trivial, rfl, by simp [RepFL, RepF]⟩⟩
theorem Opnd.str (ht : P.underlying t = some .string) (hc : P.cellsOf t = 1) : Opnd P t 1 (fun s : List UInt8 => [.str s]) (fun s => s.length ≤ reachBytes) :=
  ⟨hc, fun H enc W fuel cs x h hz => by
    obtain ⟨⟨⟨s⟩⟩, rfl, rfl, hw⟩ := DataW.trod_string ht h
    exact ⟨s, hz _ (by simp [DataW.weights]), rfl, by simp [RepFL, RepF]⟩⟩
theorem Opnd.map {f' : Y → List AV} {wf' : Y → Prop} (h : Opnd P t n f wf) (g : X → Y) (hf : ∀ x, f' (g x) = f x) (hw : ∀ x, wf x → wf' (g x)) : Opnd P t n f' wf' :=
  ⟨h.1, fun H enc W fuel cs x h1 hz => by
    obtain ⟨a, h2, h3, h4⟩ := h.2 H enc W fuel cs x h1 hz
    exact ⟨g a, hw a h2, by rw [hf]; exact h3, by rw [hf]; exact h4⟩⟩

/-- The fields of a struct, from a place on. -/
def OpndFs (P : Program) (fs : List Field) (o : Nat) {X : Type} (n : Nat) (f : X → List AV) (wf : X → Prop) : Prop :=
  ∀ (H : Type) (enc : TypeId × Value → H) (W : World) (fuel : Nat) (cs : List Value), o + n ≤ cs.length →
    (∀ fl ∈ fs, ∃ y, DataW.trod enc P W 0 (fun _ => true) true fuel fl.type ((cs.drop fl.offset).take (P.cellsOf fl.type)) = some y ∧ Sized P fl.type y.1) →
    ∃ a : X, wf a ∧ (f a).length = n ∧ RepFL (Ctx.top W) (f a) ((cs.drop o).take n)
theorem OpndFs.nil (o : Nat) : OpndFs P [] o 0 (fun _ : Unit => []) (fun _ => True) := fun _ _ _ _ _ _ _ => ⟨(), trivial, rfl, by simp [RepFL]⟩
theorem OpndFs.cons {fl : Field} {fs : List Field} {o k : Nat} {g : Y → List AV} {wg : Y → Prop} (h : Opnd P fl.type k f wf) (ho : fl.offset = o) (r : OpndFs P fs (o + k) n g wg) :
    OpndFs P (fl :: fs) o (k + n) (fun x : X × Y => f x.1 ++ g x.2) (fun x => wf x.1 ∧ wg x.2) := fun H enc W fuel cs hl hall => by
  obtain ⟨y, hy, hz⟩ := hall fl (by simp)
  rw [ho, h.1] at hy
  obtain ⟨a, h1, h2, h3⟩ := h.2 H enc W fuel _ y hy hz
  obtain ⟨b, k1, k2, k3⟩ := r H enc W fuel cs (by omega) fun x hx => hall x (by simp [hx])
  refine ⟨(a, b), ⟨h1, k1⟩, by simp [h2, k2], ?_⟩
  have e1 : (cs.drop o).take (k + n) = (cs.drop o).take k ++ (cs.drop (o + k)).take n := by
    rw [List.take_add, List.drop_drop]
  rw [e1]
  exact RepFL.append h3 k3
theorem Opnd.struct {fs : Array Field} (ht : P.underlying t = some (.struct fs)) (hc : P.cellsOf t = n) (h : OpndFs P fs.toList 0 n f wf) : Opnd P t n f wf :=
  ⟨hc, fun H enc W fuel cs x h1 hz => by
    obtain ⟨xs, m, rfl, rfl, hl, hn, hfs⟩ := DataW.trod_struct ht h1
    obtain ⟨a, k1, k2, k3⟩ := h H enc W m cs (by omega) fun fl hfl => by
      obtain ⟨i, hi, rfl⟩ := List.getElem_of_mem hfl
      have := hfs i fs.toList[i] (by simp)
      rw [this]
      have hi2 : i < xs.length := by rw [hn]; simpa using hi
      refine ⟨xs[i], List.getElem?_eq_getElem _, fun w hw => hz w ?_⟩
      simp only [DataW.weights, ht]
      exact weightsEach_mem (i := i) (by rw [List.getElem?_map, List.getElem?_eq_getElem hi]; rfl) (by simp [hi2]) hw
    refine ⟨a, k1, k2, ?_⟩
    rw [List.drop_zero, List.take_of_length_le (by omega)] at k3
    exact k3⟩

theorem Opnd.array (ht : P.underlying t = some (.array m e)) (hc : P.cellsOf t = m * n) (he : Opnd P e n f wf) :
    Opnd P t (m * n) (fun xs : List X => xs.flatMap f) (fun xs => xs.length = m ∧ ∀ x ∈ xs, wf x) :=
  ⟨hc, fun H enc W fuel cs x h1 hz => by
    obtain ⟨xs, q, rfl, rfl, hl, hn, hfs⟩ := DataW.trod_array ht h1
    have key : ∀ k, k ≤ m → ∃ ys : List X, (ys.length = k ∧ ∀ y ∈ ys, wf y) ∧ (ys.flatMap f).length = k * n ∧ RepFL (Ctx.top W) (ys.flatMap f) (cs.take (k * n)) := by
      intro k
      induction k with
      | zero => intro _; exact ⟨[], ⟨rfl, fun y hy => by cases hy⟩, by simp, by simp [RepFL]⟩
      | succ k ih =>
        intro hk
        obtain ⟨ys, ⟨a1, a2⟩, a3, a4⟩ := ih (by omega)
        have h2 := hfs k (by omega)
        rw [List.getElem?_eq_getElem (by omega), he.1] at h2
        obtain ⟨y, b1, b2, b3⟩ := he.2 H enc W q _ _ h2 fun w hw => hz w (by
          simp only [DataW.weights, ht]
          exact weightsAll_mem (List.mem_map_of_mem (List.getElem_mem _)) hw)
        refine ⟨ys ++ [y], ⟨by simp [a1], fun z hz => ?_⟩, by simp [a3, b2, Nat.add_mul], ?_⟩
        · rcases List.mem_append.1 hz with hz | hz
          · exact a2 z hz
          · rw [List.mem_singleton.1 hz]; exact b1
        · rw [Nat.add_mul, Nat.one_mul, List.take_add]
          simp only [List.flatMap_append, List.flatMap_cons, List.flatMap_nil, List.append_nil]
          exact RepFL.append a4 b3
    obtain ⟨ys, a1, a2, a3⟩ := key m (Nat.le_refl m)
    refine ⟨ys, a1, a2, ?_⟩
    rw [List.take_of_length_le (by omega)] at a3
    exact a3⟩

theorem cell_spot {W : World} {a : Addr} {v : Value} (h : W.cell? a = some v) : a.spot = none ∧ a.block < W.heap.size := by
  unfold World.cell? at h
  split at h
  · rename_i c t fr hb
    split at h
    · cases h
    · rename_i hs
      exact ⟨by simpa using hs, (Array.getElem?_eq_some_iff.1 hb).1⟩
  · cases h
theorem addr_add_add (a : Addr) (i j : Nat) : (a.add i).add j = a.add (i + j) := by
  unfold Addr.add
  by_cases hi : i = 0
  · subst hi; simp
  · by_cases hj : j = 0
    · subst hj; simp [hi]
    · simp [hi, hj, Nat.add_assoc]

theorem Opnd.slice (ht : P.underlying t = some (.slice e)) (hc : P.cellsOf t = 1) (hn : 0 < n) (hb1 : 0 < P.bytesOf e) (he : Opnd P e n f wf) :
    Opnd P t 1 (fun xs : List X => [.fsl (xs.map f)]) (fun xs => xs.length ≤ reachBytes ∧ ∀ x ∈ xs, wf x) :=
  ⟨hc, fun H enc W fuel cs x h1 hz => by
    rcases DataW.trod_slice ht h1 with ⟨rfl, rfl⟩ | ⟨a, len, cap, elems, rest, q, rfl, rfl, rfl, hb, hlc, hcm, hel, hget, _, _⟩
    · refine ⟨[], ⟨by simp, fun y hy => by cases hy⟩, rfl, ?_⟩
      simp only [RepFL, RepF]
      exact ⟨_, [], rfl, ⟨none, 0, by simp, by simp, .inl ⟨rfl, fun _ => rfl⟩⟩, rfl⟩
    · have key : ∀ k, k ≤ len → ∃ (ys : List X) (us : List Value), (ys.length = k ∧ ∀ y ∈ ys, wf y) ∧ us.length = k * n ∧ RepFLL (Ctx.top W) (ys.map f) us ∧ ∀ j u, us[j]? = some u → W.cell? (a.add j) = some u := by
        intro k
        induction k with
        | zero => intro _; exact ⟨[], [], ⟨rfl, fun y hy => by cases hy⟩, by simp, by simp [RepFLL], fun j u h => by simp at h⟩
        | succ k ih =>
          intro hk
          obtain ⟨ys, us, ⟨a1, a2⟩, a3, a4, a5⟩ := ih (by omega)
          have h2 := hget k (by omega)
          rw [List.getElem?_eq_getElem (by omega), Option.bind_eq_some_iff] at h2
          obtain ⟨cs', h3, h4⟩ := h2
          rw [he.1] at h3
          obtain ⟨_, c2, c3⟩ := World.cells?_some h3
          obtain ⟨y, b1, b2, b3⟩ := he.2 H enc W q _ _ h4 fun w hw => hz w (by
            simp only [DataW.weights, ht]
            refine List.mem_cons_of_mem _ (List.mem_append_left _ ?_)
            exact weightsAll_mem (List.mem_map_of_mem (List.getElem_mem _)) hw)
          refine ⟨ys ++ [y], us ++ cs', ⟨by simp [a1], fun z hz => ?_⟩, by simp [a3, c2, Nat.add_mul], ?_, fun j u hj => ?_⟩
          · rcases List.mem_append.1 hz with hz | hz
            · exact a2 z hz
            · rw [List.mem_singleton.1 hz]; exact b1
          · rw [List.map_append]; exact RepFLL.snoc a4 b3
          · by_cases hlt : j < us.length
            · rw [List.getElem?_append_left hlt] at hj; exact a5 j u hj
            · rw [List.getElem?_append_right (by omega)] at hj
              have hlt2 := (List.getElem?_eq_some_iff.1 hj).1
              have := c3 (j - us.length) (by omega)
              rw [addr_add_add, show k * n + (j - us.length) = j by omega] at this
              rw [this]; exact hj
      obtain ⟨ys, us, ⟨a1, a2⟩, a3, a4, a5⟩ := key len (Nat.le_refl len)
      have hr : (elems.length + rest.length) * P.bytesOf e ≤ reachBytes := hz _ (by
        simp only [DataW.weights, ht, List.length_map]
        exact List.mem_cons_self)
      have hr2 := Nat.le_mul_of_pos_right (elems.length + rest.length) hb1
      refine ⟨ys, ⟨by rw [a1]; omega, a2⟩, rfl, ?_⟩
      simp only [RepFL, RepF]
      refine ⟨_, [], rfl, ⟨some a, cap, by simp [a1, hlc], by simp [a1], ?_⟩, rfl⟩
      by_cases h0 : len = 0
      · left
        subst h0
        exact ⟨by rw [List.map_eq_nil_iff]; exact List.eq_nil_of_length_eq_zero a1, fun h => by cases h⟩
      · right
        have hpos : 0 < us.length := by rw [a3]; exact Nat.mul_pos (by omega) hn
        have hz := a5 0 us[0] (List.getElem?_eq_getElem hpos)
        have e0 : a.add 0 = a := by simp [Addr.add]
        rw [e0] at hz
        obtain ⟨s1, s2⟩ := cell_spot hz
        obtain ⟨b, off, spot⟩ := a
        simp only at s1 s2
        subst s1
        refine ⟨b, off, us, rfl, top_fz s2, fun j u hj => ?_, a4⟩
        have := a5 j u hj
        rw [Addr.add_lit] at this
        exact this⟩

/-- An argument that is a struct or an array. -/
theorem Opnd.agg (h : Opnd P t n f wf) {H : Type} {enc : TypeId × Value → H} {W : World} {us : Array Value} {d : DataW H} {ps : List MemPlace} (hd : DataW.Trod enc P W 0 (fun _ => true) true t (.agg us) d ps) (hz : Sized P t d) :
    ∃ a, wf a ∧ RepV (Ctx.top W) (.agg (f a)) (.agg us) := by
  obtain ⟨fuel, hf⟩ := hd
  obtain ⟨a, h1, _, h2⟩ := h.2 H enc W fuel _ _ hf hz
  refine ⟨a, h1, ?_⟩
  simp only [RepV]
  exact ⟨us, rfl, RepFL.repL _ _ h2⟩
/-- An argument that is one cell. -/
theorem Opnd.one {g : X → AV} (h : Opnd P t n (fun x => [g x]) wf) {H : Type} {enc : TypeId × Value → H} {W : World} {v : Value} {d : DataW H} {ps : List MemPlace} (hv : v.cells.toList = [v]) (hd : DataW.Trod enc P W 0 (fun _ => true) true t v d ps) (hz : Sized P t d) :
    ∃ a, wf a ∧ RepV (Ctx.top W) (g a) v := by
  obtain ⟨fuel, hf⟩ := hd
  obtain ⟨a, h1, _, h2⟩ := h.2 H enc W fuel _ _ hf hz
  rw [hv] at h2
  simp only [RepFL] at h2
  obtain ⟨u, r, h3, h4, rfl⟩ := h2
  simp only [List.cons.injEq] at h3
  obtain ⟨rfl, _⟩ := h3
  exact ⟨a, h1, RepF.repV _ _ h4⟩
end
end Go.Opn

namespace Go.Proofs.YtpipbjfcbbdicaaGreatDoor
open Go Go.Abs
attribute [local irreducible] DrawW CallW RetW AC Does CmpW

/-- Is a text right UTF-8? -/
def rightF (s : List UInt8) : Bool := Lib.validD s
theorem ValidString_does (m : Int) (s : List UInt8) (hs : s.length < 4294967296) : Does Tryz.prog (GL m) 83 [.str s] [] fun ae _ => ae = .ret (.bool (rightF s)) :=
  Does.of_calls (v := .bool (rightF s)) Tryz.func83 rfl rfl (fun C => by simp [RepF]) fun C cargs hg hr => by
    rw [rep_str1 hr]
    exact Any.utf8_ValidString Tryz.laysValid ⟨⟨s⟩⟩ C.w (by simp [str_size]; omega) (tabs hg)
def runesF (s : List UInt8) : Nat := Lib.runeCount ⟨⟨s⟩⟩
theorem RuneCount_does (G : Globs) (s : List UInt8) (hs : s.length < 4294967296) : Does Tryz.prog G 82 [.str s] [] fun ae _ => ae = .ret (.int .i64 (runesF s)) :=
  Does.of_calls (v := .int .i64 (runesF s)) Tryz.func82 rfl rfl (fun C => by simp [RepF]) fun C cargs hg hr => by
    rw [rep_str1 hr]
    refine (Tryz.utf8_RuneCountInString ⟨⟨s⟩⟩ C.w (by simp [str_size]; omega)).mono ?_
    rintro e w' ⟨rfl, pos, rfl⟩
    exact ⟨rfl, (RowKit.Below.refl _ _).alloc (Nat.le_refl _) _⟩
theorem Right_does (m : Int) (s : List UInt8) (hs : s.length < 4294967296) : Does Tryz.prog (GL m) 58 [.str s] [] fun ae _ => ae = .ret (.bool (rightF s)) := by
  refine Does.body tab Tryz.func58 rfl rfl ?_
  refine gos ?_
  refine CallW.pure (ValidString_does m s hs) rfl rfl ?_
  refine gos ?_
  exact RetW.plain (by simp) rfl
/-- One sign? -/
def oneF (s : List UInt8) : Bool := rightF s && (runesF s == 1)
theorem GOne_does (m : Int) (s : List UInt8) (hs : s.length < 4294967296) : Does Tryz.prog (GL m) 57 [.str s] [] fun ae _ => ae = .ret (.bool (oneF s)) := by
  refine Does.body tab Tryz.func57 rfl rfl ?_
  refine gos ?_
  refine CallW.pure (Right_does m s hs) rfl rfl ?_
  cases h : rightF s with
  | false =>
    refine gos ?_
    refine RetW.plain (by simp) ?_
    simp [oneF, h]
  | true =>
    refine gos ?_
    refine CallW.pure (RuneCount_does _ s hs) rfl rfl ?_
    refine gos ?_
    by_cases h1 : runesF s = 1
    · refine CmpW.t (by simp; omega) ?_
      refine gos ?_
      refine RetW.plain (by simp) ?_
      simp [oneF, h, h1]
    · refine CmpW.f (by simp; omega) ?_
      refine gos ?_
      refine RetW.plain (by simp) ?_
      simp [oneF, h, h1]

/-- Digits' signs: each is one, none alike. -/
def newL (t : List UInt8) : List (List UInt8) → Bool
  | [] => true
  | x :: xs => if t = x then false else newL t xs
def setL (ds : List (List UInt8)) : Nat → Nat → Bool
  | 0, _ => true
  | f + 1, i => match ds[i]? with
    | none => true
    | some d => oneF d && newL d (ds.take i) && setL ds f (i + 1)
def setF (ds : List (List UInt8)) : Bool := setL ds 10 0
theorem idx_str {ds : List (List UInt8)} {k : Nat} {d : List UInt8} {K : AV → Prop} (h : ds[k]? = some d) (hk : K (.str d)) : dropK (ds.map AV.str) (k * ti9.size) fun cs => cellsK TY 9 cs K := by
  obtain ⟨hlt, hd⟩ := List.getElem?_eq_some_iff.1 h
  refine dropK_of (by rw [List.length_map]; show k * 1 ≤ _; omega) ?_
  have e1 : (ds.map AV.str).drop (k * ti9.size) = AV.str d :: (ds.map AV.str).drop (k + 1) := by
    show (ds.map AV.str).drop (k * 1) = _
    rw [Nat.mul_one, List.drop_eq_getElem_cons (by rw [List.length_map]; exact hlt)]
    simp [hd]
  rw [e1]
  exact hk
theorem newL_false {t : List UInt8} : ∀ {xs : List (List UInt8)} {k : Nat}, xs[k]? = some t → newL t xs = false
  | [], k, h => by simp at h
  | x :: xs, 0, h => by simp at h; simp [newL, h]
  | x :: xs, k + 1, h => by
    simp only [newL]
    split
    · rfl
    · exact newL_false (k := k) (by simpa using h)
theorem newL_true {t : List UInt8} : ∀ {xs : List (List UInt8)}, (∀ (k : Nat) (x : List UInt8), xs[k]? = some x → t ≠ x) → newL t xs = true
  | [], _ => rfl
  | x :: xs, h => by
    simp only [newL]
    rw [if_neg (h 0 x rfl)]
    exact newL_true fun k y hy => h (k + 1) y (by simpa using hy)

theorem SetValid_does (m : Int) (d0 d1 d2 d3 d4 d5 d6 d7 d8 d9 : List UInt8) (hs : ∀ d ∈ [d0, d1, d2, d3, d4, d5, d6, d7, d8, d9], d.length < 4294967296) :
    Does Tryz.prog (GL m) 17 [.agg [.str d0, .str d1, .str d2, .str d3, .str d4, .str d5, .str d6, .str d7, .str d8, .str d9]] [] fun ae _ => ae = .ret (.bool (setF [d0, d1, d2, d3, d4, d5, d6, d7, d8, d9])) := by
  obtain ⟨ds, hds⟩ : ∃ ds, ds = [d0, d1, d2, d3, d4, d5, d6, d7, d8, d9] := ⟨_, rfl⟩
  have hlen : ds.length = 10 := by rw [hds]; rfl
  rw [← hds] at hs ⊢
  refine Does.bodyA tab Tryz.func17 rfl rfl ?_
  refine AC.step tab ?_
  refine gos ?_
  intro v1
  refine gos ?_
  refine AC.wk (Wk.ptr (k := 1) (i := 0) rfl rfl rfl rfl rfl) ?_
  refine AC.cutF tab (fun e h => setF ds = true ∧ e = List.replicate 27 .any ∧ h = [none]) ?_ ?_
  · refine gos ?_
    refine AC.loopC tab (fun f e h => ∃ i : Nat, f + i = 11 ∧ i ≤ 10 ∧ setF ds = setL ds (10 - i) i ∧
      e = [.any, .fptr [.str d0, .str d1, .str d2, .str d3, .str d4, .str d5, .str d6, .str d7, .str d8, .str d9], .any, .any, .any, .any, .any, .agg [.str d0, .str d1, .str d2, .str d3, .str d4, .str d5, .str d6, .str d7, .str d8, .str d9], .int .i64 i] ++ List.replicate 18 .any ∧ h = [none]) 11 ⟨_, fgts, 0, by omega, by omega, rfl, rfl, rfl⟩ ?_
    rintro f e h ⟨i, hf, hi, hF, rfl, rfl⟩
    refine gos ?_
    by_cases h10 : i < 10
    · obtain ⟨d, hd⟩ : ∃ d, ds[i]? = some d := ⟨_, List.getElem?_eq_getElem (by omega)⟩
      have hdm : d.length < 4294967296 := hs d (List.mem_of_getElem? hd)
      rw [show 10 - i = (10 - (i + 1)) + 1 by omega] at hF
      simp only [setL, hd] at hF
      refine CmpW.T ?_
      refine gos ?_
      refine And.intro (And.intro (by omega) (by omega)) (idx_str (ds := [d0, d1, d2, d3, d4, d5, d6, d7, d8, d9]) (by rw [← hds]; exact hd) ?_)
      refine gos ?_
      refine CallW.pure (GOne_does m d hdm) rfl rfl ?_
      cases h1 : oneF d with
      | false =>
        refine gos ?_
        refine RetW.plain (by simp) ?_
        rw [hF, h1]; rfl
      | true =>
        rw [h1, Bool.true_and] at hF
        refine gos ?_
        refine And.intro (And.intro rfl (by simp)) ?_
        refine And.intro (And.intro (by omega) (And.intro (by omega) (by omega))) ?_
        obtain ⟨ES, hES⟩ : ∃ ES, ES = List.map (fun c => [c]) (List.drop (Int.toNat 0) (List.take (Int.toNat (i : Int)) [AV.str d0, AV.str d1, AV.str d2, AV.str d3, AV.str d4, AV.str d5, AV.str d6, AV.str d7, AV.str d8, AV.str d9])) := ⟨_, rfl⟩
        rw [← hES]
        have hE2 : ES = (ds.take i).map fun t => [AV.str t] := by rw [hES, hds]; simp [List.map_take]
        have hEl : ES.length = i := by rw [hE2]; simp; omega
        clear hES
        refine gos ?_
        rw [hEl]
        refine AC.loopC tab (fun g e h => ∃ k : Nat, g + k = i + 1 ∧ k ≤ i ∧ (∀ j t, j < k → (ds.take i)[j]? = some t → d ≠ t) ∧
          e = [.any, .fptr [.str d0, .str d1, .str d2, .str d3, .str d4, .str d5, .str d6, .str d7, .str d8, .str d9], .any, .any, .str d, .any, .any, .agg [.str d0, .str d1, .str d2, .str d3, .str d4, .str d5, .str d6, .str d7, .str d8, .str d9], .int .i64 i, .any, .any, .any, .any, .any, .any, .any, .fsl ES, .int .i64 i, .int .i64 k] ++ List.replicate 8 .any ∧ h = [none]) (i + 1) ⟨_, fgts, 0, by omega, by omega, (fun j t hj => by omega), rfl, rfl⟩ ?_
        rintro g e h ⟨k, hg, hk, hall, rfl, rfl⟩
        refine gos ?_
        by_cases hki : k < i
        · obtain ⟨t, ht⟩ : ∃ t, (ds.take i)[k]? = some t := ⟨_, List.getElem?_eq_getElem (by simp; omega)⟩
          refine CmpW.T ?_
          refine gos ?_
          refine And.intro (fun y hy => by rw [hE2] at hy; obtain ⟨z, _, rfl⟩ := List.mem_map.1 hy; rfl) (And.intro (by omega) ⟨[.str t], by rw [hE2, Int.toNat_natCast, List.getElem?_map, ht]; rfl, ?_⟩)
          refine gos ?_
          by_cases hdt : d = t
          · refine CmpW.t (by simpa using hdt) ?_
            refine gos ?_
            refine RetW.plain (by simp) ?_
            rw [hF, newL_false (k := k) (by rw [hdt]; exact ht)]; rfl
          · refine CmpW.f (by simpa using hdt) ?_
            refine gos ?_
            refine ⟨g - 1, _, 1, by omega, fgts, k + 1, by omega, by omega, (fun j u hj hu => ?_), rfl, rfl⟩
            by_cases hjk : j = k
            · subst hjk; rw [ht] at hu; cases hu; exact hdt
            · exact hall j u (by omega) hu
        · refine CmpW.N ?_
          refine gos ?_
          rw [newL_true (fun j u hu => hall j u (by have := (List.getElem?_eq_some_iff.1 hu).1; simp at this; omega) hu), Bool.true_and] at hF
          exact ⟨f - 1, _, 1, by omega, fgts, i + 1, by omega, by omega, hF, rfl, rfl⟩
    · refine CmpW.N ?_
      refine gos ?_
      have : i = 10 := by omega
      subst this
      exact ⟨_, 1, fgts, hF, rfl, rfl⟩
  rintro e h ⟨hF, rfl, rfl⟩
  refine AC.go tab ?_
  refine gos ?_
  refine RetW.plain (by simp) ?_
  rw [hF]

/-- The digit with whose sign a text begins, and how many bytes it has. -/
def sonL (t : List UInt8) : List (List UInt8) → Nat → Option (Nat × Nat)
  | [], _ => none
  | d :: ds, i => if d ≠ [] ∧ d.isPrefixOf t = true then some (i, d.length) else sonL t ds (i + 1)
def sonF (ds : List (List UInt8)) (t : List UInt8) : Option (Nat × Nat) := sonL t ds 0
def sonV (r : Option (Nat × Nat)) : AV := match r with
  | some (d, n) => .tuple [.int .i64 d, .int .i64 n]
  | none => .tuple [.int .i64 (-1), .int .i64 0]
theorem SetOne_does (G : Globs) (d0 d1 d2 d3 d4 d5 d6 d7 d8 d9 t : List UInt8) :
    Does Tryz.prog G 59 [.agg [.str d0, .str d1, .str d2, .str d3, .str d4, .str d5, .str d6, .str d7, .str d8, .str d9], .str t] [] fun ae _ => ae = .ret (sonV (sonF [d0, d1, d2, d3, d4, d5, d6, d7, d8, d9] t)) := by
  obtain ⟨ds, hds⟩ : ∃ ds, ds = [d0, d1, d2, d3, d4, d5, d6, d7, d8, d9] := ⟨_, rfl⟩
  have hlen : ds.length = 10 := by rw [hds]; rfl
  rw [← hds]
  refine Does.bodyA tab Tryz.func59 rfl rfl ?_
  refine AC.step tab ?_
  refine gos ?_
  intro v1
  refine gos ?_
  refine AC.wk (Wk.ptr (k := 2) (i := 0) rfl rfl rfl rfl rfl) ?_
  refine AC.cutF tab (fun e h => sonF ds t = none ∧ e = List.replicate 24 .any ∧ h = [none]) ?_ ?_
  · refine gos ?_
    refine AC.loopC tab (fun f e h => ∃ i : Nat, f + i = 11 ∧ i ≤ 10 ∧ sonF ds t = sonL t (ds.drop i) i ∧
      e = [.any, .str t, .any, .any, .any, .any, .any, .any, .agg [.str d0, .str d1, .str d2, .str d3, .str d4, .str d5, .str d6, .str d7, .str d8, .str d9], .int .i64 i] ++ List.replicate 14 .any ∧ h = [none]) 11 ⟨_, fgts, 0, by omega, by omega, rfl, rfl, rfl⟩ ?_
    rintro f e h ⟨i, hf, hi, hF, rfl, rfl⟩
    refine gos ?_
    by_cases h10 : i < 10
    · obtain ⟨d, hd⟩ : ∃ d, ds[i]? = some d := ⟨_, List.getElem?_eq_getElem (by omega)⟩
      have hdr : ds.drop i = d :: ds.drop (i + 1) := by
        rw [List.drop_eq_getElem_cons (by omega)]
        have := List.getElem?_eq_some_iff.1 hd
        rw [this.2]
      rw [hdr] at hF
      simp only [sonL] at hF
      refine CmpW.T ?_
      refine gos ?_
      refine And.intro (And.intro (by omega) (by omega)) (idx_str (ds := [d0, d1, d2, d3, d4, d5, d6, d7, d8, d9]) (by rw [← hds]; exact hd) ?_)
      refine gos ?_
      by_cases h0 : d = []
      · refine CmpW.f (by simpa using h0) ?_
        refine gos ?_
        rw [if_neg (by simp [h0])] at hF
        exact ⟨f - 1, _, 1, by omega, fgts, i + 1, by omega, by omega, hF, rfl, rfl⟩
      · refine CmpW.t (by simpa using h0) ?_
        refine gos ?_
        refine CallW.pure (HasPrefix_does G _ _) rfl rfl ?_
        cases hp : d.isPrefixOf t with
        | true =>
          rw [if_pos ⟨h0, hp⟩] at hF
          refine gos ?_
          refine RetW.plain (by simp) ?_
          rw [hF]; rfl
        | false =>
          rw [if_neg (by simp [hp])] at hF
          refine gos ?_
          exact ⟨f - 1, _, 1, by omega, fgts, i + 1, by omega, by omega, hF, rfl, rfl⟩
    · refine CmpW.N ?_
      refine gos ?_
      have : i = 10 := by omega
      subst this
      rw [List.drop_of_length_le (by omega)] at hF
      exact ⟨_, 1, fgts, hF, rfl, rfl⟩
  rintro e h ⟨hF, rfl, rfl⟩
  refine AC.go tab ?_
  refine gos ?_
  refine RetW.plain (by simp) ?_
  rw [hF]; rfl
end Go.Proofs.YtpipbjfcbbdicaaGreatDoor

namespace Go.Proofs.YtpipbjfcbbdicaaGreatDoor
open Go Go.Abs
attribute [local irreducible] DrawW CallW RetW AC Does CmpW
variable {G : Globs}

/-- A range of code points. -/
abbrev Rg := Fin 1114112 × Fin 1114112
def encG (r : Rg) : List AV := [.int .i32 (r.1.val : Int), .int .i32 (r.2.val : Int)]
def rgs (ver : Nat) (d : Array Rg) : AObj := ⟨ver, 51, 2, d.toList.map encG⟩
def ltR (a b : Rg) : Bool := decide (a.1 < b.1)
def cmpV : AV := .func (.func 52) [] []
@[simp] theorem rgs_len (ver : Nat) (d : Array Rg) : (rgs ver d).es.length = d.size := by simp [rgs]
theorem rgs_get {ver : Nat} {d : Array Rg} {i : Nat} (h : i < d.size) : (rgs ver d).es[i]? = some (encG d[i]!) := by
  simp [rgs, h, getElem!_pos d i h]
theorem swp_enc {d : Array Rg} {i j : Nat} (hi : i < d.size) (hj : j < d.size) : ((d.toList.map encG).set i (encG d[j]!)).set j (encG d[i]!) = (Sort.swp d i j).toList.map encG := by
  simp [Sort.swp, List.map_set]
theorem swp_size (d : Array Rg) (i j : Nat) : (Sort.swp d i j).size = d.size := by simp [Sort.swp]

theorem cmpR_does (a b : Rg) : Does Tryz.prog G 52 [.agg (encG a), .agg (encG b)] [] fun ae _ => ae = .ret (.int .i64 ((a.1.val : Int) - (b.1.val : Int))) := by
  have ha := a.1.isLt
  have hb := b.1.isLt
  refine Does.body tab Tryz.func52 rfl rfl ?_
  (repeat (first | refine gof ?_ | refine fun (vv : Nat) => ?_))
  refine RetW.plain (by simp) ?_
  rfl
theorem ltR_iff (a b : Rg) : ((a.1.val : Int) - (b.1.val : Int) < 0) ↔ ltR a b = true := by
  simp only [ltR, decide_eq_true_eq, Fin.lt_def]; omega

theorem revR_does (d : Array Rg) (a b ver : Nat) (hb : b ≤ d.size) (hs : d.size < 1000000) (hb1 : 1 ≤ b) (hab : a ≤ b) :
    Does Tryz.prog G 103 [.sl 0 ver, .int .i64 a, .int .i64 b, cmpV] [some (rgs ver d)] fun ae O => ae = .ret (.tuple []) ∧ O = [some (rgs ver (Sort.reverseRange d a b))] := by
  refine Does.bodyA tab Tryz.func103 rfl rfl ?_
  refine AC.step tab ?_
  refine gos ?_
  refine AC.step tab ?_
  refine gos ?_
  have hb2 : (b : Int) - 1 = ((b - 1 : Nat) : Int) := by omega
  rw [hb2]
  refine AC.go tab ?_
  refine gos ?_
  refine AC.loopC tab (fun f e h => ∃ (i j : Nat) (d' : Array Rg), j < f + i ∧ j < d.size ∧ i ≤ j + 1 ∧ d'.size = d.size ∧ Sort.reverseRange d a b = Sort.reverseLoop i j d' ∧ e = [.sl 0 ver, .any, .any, .any, .any, .any, .any, .any, .int .i64 i, .int .i64 j] ++ List.replicate 24 .any ∧ h = [some (rgs ver d')])
    (b + 1) ⟨_, fgts, a, b - 1, d, by omega, by omega, by omega, rfl, rfl, rfl, rfl⟩ ?_
  rintro f e h ⟨i, j, d', hf, hj, hij, hd, hF, rfl, rfl⟩
  refine gos ?_
  by_cases hlt : i < j
  · refine CmpW.T ?_
    refine gos ?_
    refine DrawW.L ?_
    (repeat (first | refine gof ?_ | refine fun (vv : Nat) => ?_))
    refine And.intro (And.intro (by omega) (by rw [rgs_len]; omega)) ?_
    (repeat (first | refine gof ?_ | refine fun (vv : Nat) => ?_))
    refine ⟨encG d'[j]!, rgs_get (by omega), ?_⟩
    (repeat (first | refine gof ?_ | refine fun (vv : Nat) => ?_))
    refine And.intro (And.intro (by omega) (by rw [rgs_len]; omega)) ?_
    (repeat (first | refine gof ?_ | refine fun (vv : Nat) => ?_))
    refine ⟨encG d'[i]!, rgs_get (by omega), ?_⟩
    (repeat (first | refine gof ?_ | refine fun (vv : Nat) => ?_))
    refine And.intro (And.intro (by omega) (by rw [rgs_len]; omega)) ?_
    (repeat (first | refine gof ?_ | refine fun (vv : Nat) => ?_))
    refine ⟨encG d'[i]!, rgs_get (by omega), ?_⟩
    (repeat (first | refine gof ?_ | refine fun (vv : Nat) => ?_))
    refine And.intro (And.intro (by omega) (by simp only [List.length_set]; rw [rgs_len]; omega)) ?_
    (repeat (first | refine gof ?_ | refine fun (vv : Nat) => ?_))
    refine ⟨encG d'[j]!, by show ((rgs ver d').es.set i _)[j]? = _; rw [List.getElem?_set_ne (by omega)]; exact rgs_get (by omega), ?_⟩
    (repeat (first | refine gof ?_ | refine fun (vv : Nat) => ?_))
    rw [show (j : Int) - 1 = ((j - 1 : Nat) : Int) by omega]
    have hF2 : Sort.reverseRange d a b = Sort.reverseLoop (i + 1) (j - 1) (Sort.swp d' i j) := by
      rw [hF]
      conv => lhs; unfold Sort.reverseLoop
      rw [if_pos hlt]
    exact ⟨f - 1, _, 1, by omega, fgts, i + 1, j - 1, Sort.swp d' i j, by omega, by omega, by omega, by rw [swp_size]; exact hd, hF2, rfl, congrArg (fun es => [some (⟨ver, 51, 2, es⟩ : AObj)]) (swp_enc (by omega) (by omega))⟩
  · refine CmpW.N ?_
    refine gos ?_
    refine RetW.plain (by simp) ?_
    rw [hF]
    unfold Sort.reverseLoop
    rw [if_neg hlt]
    exact ⟨rfl, rfl⟩
end Go.Proofs.YtpipbjfcbbdicaaGreatDoor
