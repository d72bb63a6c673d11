/- The library's functions, as contracts of the layer. -/
import Derived.Test.YtjbkhjjaajhjaaaDoorTy
import Derived.Test.YtjbkhjjaajhjaaaDoorShelf
import Derived.Test.YtjbkhjjaajhjaaaDoorAbsC
set_option linter.unusedVariables false
set_option linter.unusedSimpArgs false
namespace Go.Proofs.YtjbkhjjaajhjaaaDoor
open Go Go.Abs

def firstCells : List AV := (List.range 256).map fun c => .int .u8 (Lib.firstT c)
def acceptCells : List AV := (List.range 16).flatMap fun i => [.int .u8 (Lib.accLo i), .int .u8 (Lib.accHi i)]
/-- The library's variables that are read. -/
def GL (m : Int) : Globs := [(0, firstCells), (1, acceptCells), (2, [.int .i64 m])]
theorem rep_ints {C : Ctx} : ∀ {l : List (IntKind × Int)} {us : List Value}, RepFL C (l.map fun x => .int x.1 x.2) us → us = l.map fun x => .int x.1 x.2
  | [], us, h => by simpa [RepFL] using h
  | x :: l, us, h => by
    simp only [List.map_cons, RepFL, RepF] at h
    obtain ⟨u, r, rfl, rfl, h⟩ := h
    rw [rep_ints h]; rfl
theorem tabs {C : Ctx} {m : Int} (hg : Abs.Good (GL m) C) : Lib.Utf8Tabs 0 1 C.w := by
  obtain ⟨us, _, h2, h3⟩ := hg.glob (0, firstCells) (by simp [GL])
  obtain ⟨vs, _, k2, k3⟩ := hg.glob (1, acceptCells) (by simp [GL])
  have e1 : firstCells = ((List.range 256).map fun c => (IntKind.u8, ((Lib.firstT c : Nat) : Int))).map fun x => AV.int x.1 x.2 := by unfold firstCells; rw [List.map_map]; rfl
  have e2 : acceptCells = ((List.range 16).flatMap fun i => [(IntKind.u8, ((Lib.accLo i : Nat) : Int)), (IntKind.u8, ((Lib.accHi i : Nat) : Int))]).map fun x => AV.int x.1 x.2 := by
    unfold acceptCells; rw [List.map_flatMap]; rfl
  rw [e1] at h3
  rw [e2] at k3
  have f1 := rep_ints h3
  have f2 := rep_ints k3
  refine ⟨fun c hc => ?_, fun i hi => ⟨?_, ?_⟩⟩
  · have := h2 c (.int .u8 (Lib.firstT c)) (by rw [f1]; simp [hc])
    simpa using this
  · have : vs[2 * i]? = some (.int .u8 (Lib.accLo i)) := by
      rw [f2]; clear f1 f2 e1 e2 h3 k3 k2 h2
      have : ∀ i < 16, (((List.range 16).flatMap fun i => [(IntKind.u8, ((Lib.accLo i : Nat) : Int)), (IntKind.u8, ((Lib.accHi i : Nat) : Int))]))[2 * i]? = some (IntKind.u8, ((Lib.accLo i : Nat) : Int)) := by decide
      rw [List.getElem?_map, this i hi]; rfl
    have := k2 _ _ this
    simpa using this
  · have : vs[2 * i + 1]? = some (.int .u8 (Lib.accHi i)) := by
      rw [f2]; clear f1 f2 e1 e2 h3 k3 k2 h2
      have : ∀ i < 16, (((List.range 16).flatMap fun i => [(IntKind.u8, ((Lib.accLo i : Nat) : Int)), (IntKind.u8, ((Lib.accHi i : Nat) : Int))]))[2 * i + 1]? = some (IntKind.u8, ((Lib.accHi i : Nat) : Int)) := by decide
      rw [List.getElem?_map, this i hi]; rfl
    have := k2 _ _ this
    simpa using this

theorem HasPrefix_does (G : Globs) (s t : List UInt8) : Does Tryd.prog G 30 [.str s, .str t] [] fun ae _ => ae = .ret (.bool (t.isPrefixOf s)) :=
  Does.of_calls (v := .bool (t.isPrefixOf s)) Tryd.func30 rfl rfl (fun C => by simp [RepF]) fun C cargs hg hr => by
    rw [rep_str2 hr]
    refine (Tryd.strings_HasPrefix _ _ C.w).mono ?_
    rintro e w' ⟨rfl, rfl⟩
    exact ⟨rfl, below_same _⟩
theorem IndexByte_does (G : Globs) (s : List UInt8) (c : Int) : Does Tryd.prog G 36 [.str s, .int .u8 c] [] fun ae _ => ae = .ret (.int .i64 (Lib.indexByte s c.toNat.toUInt8)) :=
  Does.of_calls (v := .int .i64 (Lib.indexByte s c.toNat.toUInt8)) Tryd.func36 rfl rfl (fun C => by simp [RepF]) fun C cargs hg hr => by
    rw [rep_strint hr]
    refine (Tryd.strings_IndexByte _ _ C.w).mono ?_
    rintro e w' ⟨rfl, rfl⟩
    exact ⟨rfl, below_same _⟩
/-- A text's first code point, and its bytes. -/
def dec (s : List UInt8) : Nat × Nat := Lib.decodeGo ⟨⟨s⟩⟩
theorem Decode_does (m : Int) (s : List UInt8) : Does Tryd.prog (GL m) 18 [.str s] [] fun ae _ => ae = .ret (.tuple [.int .i32 (dec s).1, .int .i64 (dec s).2]) :=
  Does.of_calls (v := .tuple #[.int .i32 (dec s).1, .int .i64 (dec s).2]) Tryd.func18 rfl rfl (fun C => by simp [RepF, RepFL]) fun C cargs hg hr => by
    rw [rep_str1 hr]
    refine (Tryd.utf8_DecodeRuneInString _ C.w (tabs hg)).mono ?_
    rintro e w' ⟨rfl, hb⟩
    exact ⟨rfl, hb⟩
theorem NoEscape_does {G : Globs} (v : Nat) (o : AObj) (rest : AHeap) : Does Tryd.prog G 47 [.ptr 0 v 0 0] (some o :: rest) fun ae O => ae = .ret (.ptr 0 v 0 0) ∧ O = some o :: rest := by
  intro C cargs hg hs hr
  have hr' := hr
  simp only [RepL] at hr
  obtain ⟨u, r, rfl, hu, rfl⟩ := hr
  unfold CallsF
  rw [run_callFunc_extern Tryd.func47 (by kernel_rfl) (by kernel_rfl) (by kernel_rfl) (e := Extern.AbiNoEscape.same) (by kernel_rfl), Lib.run_noEscape]
  exact ⟨.ret (.ptr 0 v 0 0), C, rfl, hg, Ext.refl C, by rw [hs], ⟨rfl, hs⟩, hu⟩
section
attribute [local irreducible] DrawW CallW RetW AC Does CmpW
variable {G : Globs}
theorem copyCheck_bld {v rv : Nat} {a : AV} (l : List UInt8) (ha : Self 0 v a) : Does Tryd.prog G 39 [.ptr 0 v 0 0] [some (bldO 69 v a (.sl 1 rv)), some ⟨rv, 5, 1, byteEs' l⟩] fun ae O => ae = .ret (.tuple []) ∧ ∃ rv', O = [some (bldO 69 v (.ptr 0 v 0 0) (.sl 1 rv')), some ⟨rv', 5, 1, byteEs' l⟩] := by
  refine Does.body tab Tryd.func39 rfl rfl ?_
  cases ha with
  | nil =>
    (repeat (first | refine And.intro rfl ?_ | refine Exists.intro _ (And.intro (wrap_i64 (by first | omega | (simp; done) | (simp; omega)) (by first | omega | (simp; done) | (simp; omega))) ?_) | refine Exists.intro _ (And.intro rfl ?_) | refine And.intro (fun _ => ?_) (fun h => Bool.noConfusion h) | refine And.intro (fun h => Bool.noConfusion h) (fun _ => ?_) | refine And.intro (And.intro (by decide) (by decide)) ?_ | refine And.intro (And.intro (Nat.le_of_ble_eq_true rfl) (Nat.le_of_ble_eq_true rfl)) ?_ | refine And.intro (And.intro rfl (And.intro rfl (And.intro rfl rfl))) ?_ | refine And.intro (And.intro rfl (And.intro rfl (Nat.le_of_ble_eq_true rfl))) ?_ | refine And.intro (And.intro rfl (And.intro rfl rfl)) ?_ | refine And.intro trivial ?_ | refine CmpW.t rfl ?_ | refine CmpW.f rfl ?_))
    refine CallW.ofN [0, 1] (as' := [.ptr 0 v 0 0]) (NoEscape_does v (bldO 69 v .nilp (.sl 1 rv)) [some ⟨rv, 5, 1, byteEs' l⟩]) ?_ rfl rfl ?_
    · exact hands_bld (by decide) .nil rfl rfl rfl
    rintro ae O ⟨rfl, rfl⟩ _
    simp only [putR, ren, Option.map_some, renO_bytes]
    (repeat (first | refine And.intro rfl ?_ | refine Exists.intro _ (And.intro (wrap_i64 (by first | omega | (simp; done) | (simp; omega)) (by first | omega | (simp; done) | (simp; omega))) ?_) | refine Exists.intro _ (And.intro rfl ?_) | refine And.intro (fun _ => ?_) (fun h => Bool.noConfusion h) | refine And.intro (fun h => Bool.noConfusion h) (fun _ => ?_) | refine And.intro (And.intro (by decide) (by decide)) ?_ | refine And.intro (And.intro (Nat.le_of_ble_eq_true rfl) (Nat.le_of_ble_eq_true rfl)) ?_ | refine And.intro (And.intro rfl (And.intro rfl (And.intro rfl rfl))) ?_ | refine And.intro (And.intro rfl (And.intro rfl (Nat.le_of_ble_eq_true rfl))) ?_ | refine And.intro (And.intro rfl (And.intro rfl rfl)) ?_ | refine And.intro trivial ?_ | refine CmpW.t rfl ?_ | refine CmpW.f rfl ?_))
    refine RetW.plain (by simp) ?_
    exact ⟨rfl, rv, rfl⟩
  | at_ =>
    (repeat (first | refine And.intro rfl ?_ | refine Exists.intro _ (And.intro (wrap_i64 (by first | omega | (simp; done) | (simp; omega)) (by first | omega | (simp; done) | (simp; omega))) ?_) | refine Exists.intro _ (And.intro rfl ?_) | refine And.intro (fun _ => ?_) (fun h => Bool.noConfusion h) | refine And.intro (fun h => Bool.noConfusion h) (fun _ => ?_) | refine And.intro (And.intro (by decide) (by decide)) ?_ | refine And.intro (And.intro (Nat.le_of_ble_eq_true rfl) (Nat.le_of_ble_eq_true rfl)) ?_ | refine And.intro (And.intro rfl (And.intro rfl (And.intro rfl rfl))) ?_ | refine And.intro (And.intro rfl (And.intro rfl (Nat.le_of_ble_eq_true rfl))) ?_ | refine And.intro (And.intro rfl (And.intro rfl rfl)) ?_ | refine And.intro trivial ?_ | refine CmpW.t rfl ?_ | refine CmpW.f rfl ?_))
    refine RetW.plain (by simp) ?_
    exact ⟨rfl, rv, rfl⟩
theorem WriteByte_does {v rv : Nat} {a : AV} (l : List UInt8) (ha : Self 0 v a) (c : UInt8) (hl : l.length < 4294967296) : Does Tryd.prog G 45 [.ptr 0 v 0 0, .int .u8 c.toNat] [some (bldO 69 v a (.sl 1 rv)), some ⟨rv, 5, 1, byteEs' l⟩] fun ae O => ae = .ret .nili ∧ ∃ rv', O = [some (bldO 69 v (.ptr 0 v 0 0) (.sl 1 rv')), some ⟨rv', 5, 1, byteEs' (l ++ [c])⟩] := by
  refine Does.body tab Tryd.func45 rfl rfl ?_
  (repeat (first | refine And.intro rfl ?_ | refine Exists.intro _ (And.intro (wrap_i64 (by first | omega | (simp; done) | (simp; omega)) (by first | omega | (simp; done) | (simp; omega))) ?_) | refine Exists.intro _ (And.intro rfl ?_) | refine And.intro (fun _ => ?_) (fun h => Bool.noConfusion h) | refine And.intro (fun h => Bool.noConfusion h) (fun _ => ?_) | refine And.intro (And.intro (by decide) (by decide)) ?_ | refine And.intro (And.intro (Nat.le_of_ble_eq_true rfl) (Nat.le_of_ble_eq_true rfl)) ?_ | refine And.intro (And.intro rfl (And.intro rfl (And.intro rfl rfl))) ?_ | refine And.intro (And.intro rfl (And.intro rfl (Nat.le_of_ble_eq_true rfl))) ?_ | refine And.intro (And.intro rfl (And.intro rfl rfl)) ?_ | refine And.intro trivial ?_ | refine CmpW.t rfl ?_ | refine CmpW.f rfl ?_))
  refine CallW.bldW (by decide) ha rfl rfl (fun a' h => copyCheck_bld l h) rfl rfl (fun rv' => ?_)
  (repeat (first | refine And.intro rfl ?_ | refine Exists.intro _ (And.intro (wrap_i64 (by first | omega | (simp; done) | (simp; omega)) (by first | omega | (simp; done) | (simp; omega))) ?_) | refine Exists.intro _ (And.intro rfl ?_) | refine And.intro (fun _ => ?_) (fun h => Bool.noConfusion h) | refine And.intro (fun h => Bool.noConfusion h) (fun _ => ?_) | refine And.intro (And.intro (by decide) (by decide)) ?_ | refine And.intro (And.intro (Nat.le_of_ble_eq_true rfl) (Nat.le_of_ble_eq_true rfl)) ?_ | refine And.intro (And.intro rfl (And.intro rfl (And.intro rfl rfl))) ?_ | refine And.intro (And.intro rfl (And.intro rfl (Nat.le_of_ble_eq_true rfl))) ?_ | refine And.intro (And.intro rfl (And.intro rfl rfl)) ?_ | refine And.intro trivial ?_ | refine CmpW.t rfl ?_ | refine CmpW.f rfl ?_))
  intro v3
  (repeat (first | refine And.intro rfl ?_ | refine Exists.intro _ (And.intro (wrap_i64 (by first | omega | (simp; done) | (simp; omega)) (by first | omega | (simp; done) | (simp; omega))) ?_) | refine Exists.intro _ (And.intro rfl ?_) | refine And.intro (fun _ => ?_) (fun h => Bool.noConfusion h) | refine And.intro (fun h => Bool.noConfusion h) (fun _ => ?_) | refine And.intro (And.intro (by decide) (by decide)) ?_ | refine And.intro (And.intro (Nat.le_of_ble_eq_true rfl) (Nat.le_of_ble_eq_true rfl)) ?_ | refine And.intro (And.intro rfl (And.intro rfl (And.intro rfl rfl))) ?_ | refine And.intro (And.intro rfl (And.intro rfl (Nat.le_of_ble_eq_true rfl))) ?_ | refine And.intro (And.intro rfl (And.intro rfl rfl)) ?_ | refine And.intro trivial ?_ | refine CmpW.t rfl ?_ | refine CmpW.f rfl ?_))
  refine And.intro (And.intro (fun y hy => by rcases List.mem_singleton.1 hy with rfl; rfl) (fun y hy => by rcases List.mem_singleton.1 hy with rfl; rfl)) ?_
  refine And.intro (And.intro rfl trivial) ?_
  (repeat (first | refine And.intro rfl ?_ | refine Exists.intro _ (And.intro (wrap_i64 (by first | omega | (simp; done) | (simp; omega)) (by first | omega | (simp; done) | (simp; omega))) ?_) | refine Exists.intro _ (And.intro rfl ?_) | refine And.intro (fun _ => ?_) (fun h => Bool.noConfusion h) | refine And.intro (fun h => Bool.noConfusion h) (fun _ => ?_) | refine And.intro (And.intro (by decide) (by decide)) ?_ | refine And.intro (And.intro (Nat.le_of_ble_eq_true rfl) (Nat.le_of_ble_eq_true rfl)) ?_ | refine And.intro (And.intro rfl (And.intro rfl (And.intro rfl rfl))) ?_ | refine And.intro (And.intro rfl (And.intro rfl (Nat.le_of_ble_eq_true rfl))) ?_ | refine And.intro (And.intro rfl (And.intro rfl rfl)) ?_ | refine And.intro trivial ?_ | refine CmpW.t rfl ?_ | refine CmpW.f rfl ?_))
  refine And.intro (by simp [byteEs', maxLen, ti5]; omega) ?_
  intro v4
  (repeat (first | refine And.intro rfl ?_ | refine Exists.intro _ (And.intro (wrap_i64 (by first | omega | (simp; done) | (simp; omega)) (by first | omega | (simp; done) | (simp; omega))) ?_) | refine Exists.intro _ (And.intro rfl ?_) | refine And.intro (fun _ => ?_) (fun h => Bool.noConfusion h) | refine And.intro (fun h => Bool.noConfusion h) (fun _ => ?_) | refine And.intro (And.intro (by decide) (by decide)) ?_ | refine And.intro (And.intro (Nat.le_of_ble_eq_true rfl) (Nat.le_of_ble_eq_true rfl)) ?_ | refine And.intro (And.intro rfl (And.intro rfl (And.intro rfl rfl))) ?_ | refine And.intro (And.intro rfl (And.intro rfl (Nat.le_of_ble_eq_true rfl))) ?_ | refine And.intro (And.intro rfl (And.intro rfl rfl)) ?_ | refine And.intro trivial ?_ | refine CmpW.t rfl ?_ | refine CmpW.f rfl ?_))
  refine RetW.plain (by simp) ?_
  exact ⟨rfl, v4, by simp [byteEs']; rfl⟩
theorem WriteString_does {v rv : Nat} {a : AV} (l : List UInt8) (ha : Self 0 v a) (s : List UInt8) (hl : l.length + s.length < 4294967296) : Does Tryd.prog G 31 [.ptr 0 v 0 0, .str s] [some (bldO 69 v a (.sl 1 rv)), some ⟨rv, 5, 1, byteEs' l⟩] fun ae O => ae = .ret (.tuple [.int .i64 s.length, .nili]) ∧ ∃ rv', O = [some (bldO 69 v (.ptr 0 v 0 0) (.sl 1 rv')), some ⟨rv', 5, 1, byteEs' (l ++ s)⟩] := by
  refine Does.body tab Tryd.func31 rfl rfl ?_
  (repeat (first | refine And.intro rfl ?_ | refine Exists.intro _ (And.intro (wrap_i64 (by first | omega | (simp; done) | (simp; omega)) (by first | omega | (simp; done) | (simp; omega))) ?_) | refine Exists.intro _ (And.intro rfl ?_) | refine And.intro (fun _ => ?_) (fun h => Bool.noConfusion h) | refine And.intro (fun h => Bool.noConfusion h) (fun _ => ?_) | refine And.intro (And.intro (by decide) (by decide)) ?_ | refine And.intro (And.intro (Nat.le_of_ble_eq_true rfl) (Nat.le_of_ble_eq_true rfl)) ?_ | refine And.intro (And.intro rfl (And.intro rfl (And.intro rfl rfl))) ?_ | refine And.intro (And.intro rfl (And.intro rfl (Nat.le_of_ble_eq_true rfl))) ?_ | refine And.intro (And.intro rfl (And.intro rfl rfl)) ?_ | refine And.intro trivial ?_ | refine CmpW.t rfl ?_ | refine CmpW.f rfl ?_))
  refine CallW.bldW (by decide) ha rfl rfl (fun a' h => copyCheck_bld l h) rfl rfl (fun rv' => ?_)
  (repeat (first | refine And.intro rfl ?_ | refine Exists.intro _ (And.intro (wrap_i64 (by first | omega | (simp; done) | (simp; omega)) (by first | omega | (simp; done) | (simp; omega))) ?_) | refine Exists.intro _ (And.intro rfl ?_) | refine And.intro (fun _ => ?_) (fun h => Bool.noConfusion h) | refine And.intro (fun h => Bool.noConfusion h) (fun _ => ?_) | refine And.intro (And.intro (by decide) (by decide)) ?_ | refine And.intro (And.intro (Nat.le_of_ble_eq_true rfl) (Nat.le_of_ble_eq_true rfl)) ?_ | refine And.intro (And.intro rfl (And.intro rfl (And.intro rfl rfl))) ?_ | refine And.intro (And.intro rfl (And.intro rfl (Nat.le_of_ble_eq_true rfl))) ?_ | refine And.intro (And.intro rfl (And.intro rfl rfl)) ?_ | refine And.intro trivial ?_ | refine CmpW.t rfl ?_ | refine CmpW.f rfl ?_))
  refine And.intro (by simp [byteEs']; omega) ?_
  intro v4
  (repeat (first | refine And.intro rfl ?_ | refine Exists.intro _ (And.intro (wrap_i64 (by first | omega | (simp; done) | (simp; omega)) (by first | omega | (simp; done) | (simp; omega))) ?_) | refine Exists.intro _ (And.intro rfl ?_) | refine And.intro (fun _ => ?_) (fun h => Bool.noConfusion h) | refine And.intro (fun h => Bool.noConfusion h) (fun _ => ?_) | refine And.intro (And.intro (by decide) (by decide)) ?_ | refine And.intro (And.intro (Nat.le_of_ble_eq_true rfl) (Nat.le_of_ble_eq_true rfl)) ?_ | refine And.intro (And.intro rfl (And.intro rfl (And.intro rfl rfl))) ?_ | refine And.intro (And.intro rfl (And.intro rfl (Nat.le_of_ble_eq_true rfl))) ?_ | refine And.intro (And.intro rfl (And.intro rfl rfl)) ?_ | refine And.intro trivial ?_ | refine CmpW.t rfl ?_ | refine CmpW.f rfl ?_))
  refine RetW.plain (by simp) ?_
  exact ⟨rfl, v4, by simp [byteEs']; rfl⟩
theorem String_bld {v rv : Nat} {a : AV} (l : List UInt8) (ha : Self 0 v a) : Does Tryd.prog G 33 [.ptr 0 v 0 0] [some (bldO 69 v a (.sl 1 rv)), some ⟨rv, 5, 1, byteEs' l⟩] fun ae O => ae = .ret (.str l) ∧ O = [some (bldO 69 v a (.sl 1 rv)), none] :=
  String_does Tryd.lays169 Tryd.Builder_Extra_169 (G := G) Tryd.func33 rfl rfl l []
end
end Go.Proofs.YtjbkhjjaajhjaaaDoor
