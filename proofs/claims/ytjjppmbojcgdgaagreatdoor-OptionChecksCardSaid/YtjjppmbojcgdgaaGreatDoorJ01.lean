/- Sorting ranges: by insertion. -/
import Derived.Test.YtjjppmbojcgdgaaGreatDoorTy
import Derived.Test.YtjjppmbojcgdgaaGreatDoorShelf
import Derived.Test.YtjjppmbojcgdgaaGreatDoorAbsC
import Derived.Sort.AssemblyPlain
set_option linter.unusedVariables false
set_option linter.unusedSimpArgs false
set_option maxRecDepth 100000
set_option maxHeartbeats 4000000

namespace Go.Proofs.YtjjppmbojcgdgaaGreatDoor
open Go Go.Abs
def firstCells : List AV := (List.range 256).map fun c => .int .u8 (Lib.firstT c)
def acceptCells : List AV := (List.range 16).flatMap fun i => [.int .u8 (Lib.accLo i), .int .u8 (Lib.accHi i)]
def GL (m : Int) : Globs := [(0, firstCells), (1, acceptCells), (2, [.int .i64 m])]
theorem rep_ints {C : Ctx} : ∀ {l : List (IntKind × Int)} {us : List Value}, RepFL C (l.map fun x => .int x.1 x.2) us → us = l.map fun x => .int x.1 x.2
  | [], us, h => by simpa [RepFL] using h
  | x :: l, us, h => by
    simp only [List.map_cons, RepFL, RepF] at h
    obtain ⟨u, r, rfl, rfl, h⟩ := h
    rw [rep_ints h]; rfl
theorem tabs {C : Ctx} {m : Int} (hg : Abs.Good (GL m) C) : Lib.Utf8Tabs 0 1 C.w := by
  obtain ⟨us, _, ⟨h2, _⟩, h3⟩ := hg.glob (0, firstCells) (by simp [GL])
  obtain ⟨vs, _, ⟨k2, _⟩, k3⟩ := hg.glob (1, acceptCells) (by simp [GL])
  have e1 : firstCells = ((List.range 256).map fun c => (IntKind.u8, ((Lib.firstT c : Nat) : Int))).map fun x => AV.int x.1 x.2 := by unfold firstCells; rw [List.map_map]; rfl
  have e2 : acceptCells = ((List.range 16).flatMap fun i => [(IntKind.u8, ((Lib.accLo i : Nat) : Int)), (IntKind.u8, ((Lib.accHi i : Nat) : Int))]).map fun x => AV.int x.1 x.2 := by
    unfold acceptCells; rw [List.map_flatMap]; rfl
  rw [e1] at h3
  rw [e2] at k3
  have f1 := rep_ints h3
  have f2 := rep_ints k3
  refine ⟨fun c hc => ?_, fun i hi => ⟨?_, ?_⟩⟩
  · have := h2 c (.int .u8 (Lib.firstT c)) (by rw [f1]; simp [hc])
    simpa using this
  · have : vs[2 * i]? = some (.int .u8 (Lib.accLo i)) := by
      rw [f2]; clear f1 f2 e1 e2 h3 k3 k2 h2
      have : ∀ i < 16, (((List.range 16).flatMap fun i => [(IntKind.u8, ((Lib.accLo i : Nat) : Int)), (IntKind.u8, ((Lib.accHi i : Nat) : Int))]))[2 * i]? = some (IntKind.u8, ((Lib.accLo i : Nat) : Int)) := by decide
      rw [List.getElem?_map, this i hi]; rfl
    have := k2 _ _ this
    simpa using this
  · have : vs[2 * i + 1]? = some (.int .u8 (Lib.accHi i)) := by
      rw [f2]; clear f1 f2 e1 e2 h3 k3 k2 h2
      have : ∀ i < 16, (((List.range 16).flatMap fun i => [(IntKind.u8, ((Lib.accLo i : Nat) : Int)), (IntKind.u8, ((Lib.accHi i : Nat) : Int))]))[2 * i + 1]? = some (IntKind.u8, ((Lib.accHi i : Nat) : Int)) := by decide
      rw [List.getElem?_map, this i hi]; rfl
    have := k2 _ _ this
    simpa using this
theorem HasPrefix_does (G : Globs) (s t : List UInt8) : Does Tryz.prog G 234 [.str s, .str t] [] fun ae _ => ae = .ret (.bool (t.isPrefixOf s)) :=
  Does.of_calls (v := .bool (t.isPrefixOf s)) Tryz.func234 rfl rfl (fun C => by simp [RepF]) fun C cargs hg hr => by
    rw [rep_str2 hr]
    refine (Tryz.strings_HasPrefix _ _ C.w).mono ?_
    rintro e w' ⟨rfl, rfl⟩
    exact ⟨rfl, below_same _⟩
theorem IndexByte_does (G : Globs) (s : List UInt8) (c : Int) : Does Tryz.prog G 210 [.str s, .int .u8 c] [] fun ae _ => ae = .ret (.int .i64 (Lib.indexByte s c.toNat.toUInt8)) :=
  Does.of_calls (v := .int .i64 (Lib.indexByte s c.toNat.toUInt8)) Tryz.func210 rfl rfl (fun C => by simp [RepF]) fun C cargs hg hr => by
    rw [rep_strint hr]
    refine (Tryz.strings_IndexByte _ _ C.w).mono ?_
    rintro e w' ⟨rfl, rfl⟩
    exact ⟨rfl, below_same _⟩
def dec (s : List UInt8) : Nat × Nat := Lib.decodeGo ⟨⟨s⟩⟩
theorem Decode_does (m : Int) (s : List UInt8) : Does Tryz.prog (GL m) 154 [.str s] [] fun ae _ => ae = .ret (.tuple [.int .i32 (dec s).1, .int .i64 (dec s).2]) :=
  Does.of_calls (v := .tuple #[.int .i32 (dec s).1, .int .i64 (dec s).2]) Tryz.func154 rfl rfl (fun C => by simp [RepF, RepFL]) fun C cargs hg hr => by
    rw [rep_str1 hr]
    refine (Tryz.utf8_DecodeRuneInString _ C.w (tabs hg)).mono ?_
    rintro e w' ⟨rfl, hb⟩
    exact ⟨rfl, hb⟩
theorem NoEscape_does {G : Globs} (v : Nat) (o : AObj) (rest : AHeap) : Does Tryz.prog G 269 [.ptr 0 v 0 0] (some o :: rest) fun ae O => ae = .ret (.ptr 0 v 0 0) ∧ O = some o :: rest := by
  intro C cargs hg hs hr
  have hr' := hr
  simp only [RepL] at hr
  obtain ⟨u, r, rfl, hu, rfl⟩ := hr
  unfold CallsF
  rw [run_callFunc_extern Tryz.func269 (by kernel_rfl) (by kernel_rfl) (by kernel_rfl) (e := Extern.AbiNoEscape.same) (by kernel_rfl), Lib.run_noEscape]
  exact ⟨.ret (.ptr 0 v 0 0), C, rfl, hg, Ext.refl C, by rw [hs], ⟨rfl, hs⟩, hu⟩
section
attribute [local irreducible] DrawW CallW RetW AC Does CmpW
variable {G : Globs}
theorem copyCheck_bld {v rv : Nat} {a : AV} (l : List UInt8) (ha : Self 0 v a) : Does Tryz.prog G 225 [.ptr 0 v 0 0] [some (bldO 256 v a (.sl 1 rv)), some ⟨rv, 5, 1, byteEs' l⟩] fun ae O => ae = .ret (.tuple []) ∧ ∃ rv', O = [some (bldO 256 v (.ptr 0 v 0 0) (.sl 1 rv')), some ⟨rv', 5, 1, byteEs' l⟩] := by
  refine Does.body tab Tryz.func225 rfl rfl ?_
  cases ha with
  | nil =>
    refine gos ?_
    refine CallW.ofN [0, 1] (as' := [.ptr 0 v 0 0]) (NoEscape_does v (bldO 256 v .nilp (.sl 1 rv)) [some ⟨rv, 5, 1, byteEs' l⟩]) ?_ rfl rfl ?_
    · exact hands_bld (by decide) .nil rfl rfl rfl
    rintro ae O ⟨rfl, rfl⟩ _
    simp only [putR, ren, Option.map_some, renO_bytes]
    refine gos ?_
    refine RetW.plain (by simp) ?_
    exact ⟨rfl, rv, rfl⟩
  | at_ =>
    refine gos ?_
    refine RetW.plain (by simp) ?_
    exact ⟨rfl, rv, rfl⟩
theorem WriteByte_does {v rv : Nat} {a : AV} (l : List UInt8) (ha : Self 0 v a) (c : UInt8) (hl : l.length < 4294967296) : Does Tryz.prog G 314 [.ptr 0 v 0 0, .int .u8 c.toNat] [some (bldO 256 v a (.sl 1 rv)), some ⟨rv, 5, 1, byteEs' l⟩] fun ae O => ae = .ret .nili ∧ ∃ rv', O = [some (bldO 256 v (.ptr 0 v 0 0) (.sl 1 rv')), some ⟨rv', 5, 1, byteEs' (l ++ [c])⟩] := by
  refine Does.body tab Tryz.func314 rfl rfl ?_
  refine gos ?_
  refine CallW.bldW (by decide) ha rfl rfl (fun a' h => copyCheck_bld l h) rfl rfl (fun rv' => ?_)
  refine gos ?_
  intro v3
  refine gos ?_
  refine And.intro (And.intro (fun y hy => by rcases List.mem_singleton.1 hy with rfl; rfl) (fun y hy => by rcases List.mem_singleton.1 hy with rfl; rfl)) ?_
  refine And.intro (And.intro rfl trivial) ?_
  refine gos ?_
  refine And.intro (by simp [byteEs', maxLen, ti5]; omega) ?_
  intro v4
  refine gos ?_
  refine RetW.plain (by simp) ?_
  exact ⟨rfl, v4, by simp [byteEs']; rfl⟩
theorem WriteString_does {v rv : Nat} {a : AV} (l : List UInt8) (ha : Self 0 v a) (s : List UInt8) (hl : l.length + s.length < 4294967296) : Does Tryz.prog G 158 [.ptr 0 v 0 0, .str s] [some (bldO 256 v a (.sl 1 rv)), some ⟨rv, 5, 1, byteEs' l⟩] fun ae O => ae = .ret (.tuple [.int .i64 s.length, .nili]) ∧ ∃ rv', O = [some (bldO 256 v (.ptr 0 v 0 0) (.sl 1 rv')), some ⟨rv', 5, 1, byteEs' (l ++ s)⟩] := by
  refine Does.body tab Tryz.func158 rfl rfl ?_
  refine gos ?_
  refine CallW.bldW (by decide) ha rfl rfl (fun a' h => copyCheck_bld l h) rfl rfl (fun rv' => ?_)
  refine gos ?_
  refine And.intro (by simp [byteEs']; omega) ?_
  intro v4
  refine gos ?_
  refine RetW.plain (by simp) ?_
  exact ⟨rfl, v4, by simp [byteEs']; rfl⟩
theorem String_bld {v rv : Nat} {a : AV} (l : List UInt8) (ha : Self 0 v a) : Does Tryz.prog G 159 [.ptr 0 v 0 0] [some (bldO 256 v a (.sl 1 rv)), some ⟨rv, 5, 1, byteEs' l⟩] fun ae O => ae = .ret (.str l) ∧ O = [some (bldO 256 v a (.sl 1 rv)), none] :=
  String_does Tryz.lays169 Tryz.Builder_Extra_169 (G := G) Tryz.func159 rfl rfl l []
end
end Go.Proofs.YtjjppmbojcgdgaaGreatDoor

namespace Go.Proofs.YtjjppmbojcgdgaaGreatDoor
open Go Go.Abs
attribute [local irreducible] DrawW CallW RetW AC Does CmpW
variable {G : Globs}
abbrev Rg := Fin 1114112 × Fin 1114112
def encG (r : Rg) : List AV := [.int .i32 (r.1.val : Int), .int .i32 (r.2.val : Int)]
def rgs (ver : Nat) (d : Array Rg) : AObj := ⟨ver, 121, 2, d.toList.map encG⟩
def ltR (a b : Rg) : Bool := decide (a.1 < b.1)
def cmpV : AV := .func (.func 52) [] []
@[simp] theorem rgs_len (ver : Nat) (d : Array Rg) : (rgs ver d).es.length = d.size := by simp [rgs]
theorem rgs_get {ver : Nat} {d : Array Rg} {i : Nat} (h : i < d.size) : (rgs ver d).es[i]? = some (encG d[i]!) := by
  simp [rgs, h, getElem!_pos d i h]
theorem swp_enc {d : Array Rg} {i j : Nat} (hi : i < d.size) (hj : j < d.size) : ((d.toList.map encG).set i (encG d[j]!)).set j (encG d[i]!) = (Sort.swp d i j).toList.map encG := by
  simp [Sort.swp, List.map_set]
theorem swp_size (d : Array Rg) (i j : Nat) : (Sort.swp d i j).size = d.size := by simp [Sort.swp]
theorem cmpR_does (a b : Rg) : Does Tryz.prog G 52 [.agg (encG a), .agg (encG b)] [] fun ae _ => ae = .ret (.int .i64 ((a.1.val : Int) - (b.1.val : Int))) := by
  have ha := a.1.isLt
  have hb := b.1.isLt
  refine Does.body tab Tryz.func52 rfl rfl ?_
  (repeat (first | refine gof ?_ | refine fun (vv : Nat) => ?_))
  refine RetW.plain (by simp) ?_
  rfl
theorem ltR_iff (a b : Rg) : ((a.1.val : Int) - (b.1.val : Int) < 0) ↔ ltR a b = true := by
  simp only [ltR, decide_eq_true_eq, Fin.lt_def]; omega
theorem revR_does (d : Array Rg) (a b ver : Nat) (hb : b ≤ d.size) (hs : d.size < 1000000) (hb1 : 1 ≤ b) (hab : a ≤ b) :
    Does Tryz.prog G 217 [.sl 0 ver, .int .i64 a, .int .i64 b, cmpV] [some (rgs ver d)] fun ae O => ae = .ret (.tuple []) ∧ O = [some (rgs ver (Sort.reverseRange d a b))] := by
  refine Does.bodyA tab Tryz.func217 rfl rfl ?_
  refine AC.step tab ?_
  refine gos ?_
  refine AC.step tab ?_
  refine gos ?_
  have hb2 : (b : Int) - 1 = ((b - 1 : Nat) : Int) := by omega
  rw [hb2]
  refine AC.go tab ?_
  refine gos ?_
  refine AC.loopC tab (fun f e h => ∃ (i j : Nat) (d' : Array Rg), j < f + i ∧ j < d.size ∧ i ≤ j + 1 ∧ d'.size = d.size ∧ Sort.reverseRange d a b = Sort.reverseLoop i j d' ∧ e = [.sl 0 ver, .any, .any, .any, .any, .any, .any, .any, .int .i64 i, .int .i64 j] ++ List.replicate 24 .any ∧ h = [some (rgs ver d')])
    (b + 1) ⟨_, fgts, a, b - 1, d, by omega, by omega, by omega, rfl, rfl, rfl, rfl⟩ ?_
  rintro f e h ⟨i, j, d', hf, hj, hij, hd, hF, rfl, rfl⟩
  refine gos ?_
  by_cases hlt : i < j
  · refine CmpW.T ?_
    refine gos ?_
    refine DrawW.L ?_
    (repeat (first | refine gof ?_ | refine fun (vv : Nat) => ?_))
    refine And.intro (And.intro (by omega) (by rw [rgs_len]; omega)) ?_
    (repeat (first | refine gof ?_ | refine fun (vv : Nat) => ?_))
    refine ⟨encG d'[j]!, rgs_get (by omega), ?_⟩
    (repeat (first | refine gof ?_ | refine fun (vv : Nat) => ?_))
    refine And.intro (And.intro (by omega) (by rw [rgs_len]; omega)) ?_
    (repeat (first | refine gof ?_ | refine fun (vv : Nat) => ?_))
    refine ⟨encG d'[i]!, rgs_get (by omega), ?_⟩
    (repeat (first | refine gof ?_ | refine fun (vv : Nat) => ?_))
    refine And.intro (And.intro (by omega) (by rw [rgs_len]; omega)) ?_
    (repeat (first | refine gof ?_ | refine fun (vv : Nat) => ?_))
    refine ⟨encG d'[i]!, rgs_get (by omega), ?_⟩
    (repeat (first | refine gof ?_ | refine fun (vv : Nat) => ?_))
    refine And.intro (And.intro (by omega) (by simp only [List.length_set]; rw [rgs_len]; omega)) ?_
    (repeat (first | refine gof ?_ | refine fun (vv : Nat) => ?_))
    refine ⟨encG d'[j]!, by show ((rgs ver d').es.set i _)[j]? = _; rw [List.getElem?_set_ne (by omega)]; exact rgs_get (by omega), ?_⟩
    (repeat (first | refine gof ?_ | refine fun (vv : Nat) => ?_))
    rw [show (j : Int) - 1 = ((j - 1 : Nat) : Int) by omega]
    have hF2 : Sort.reverseRange d a b = Sort.reverseLoop (i + 1) (j - 1) (Sort.swp d' i j) := by
      rw [hF]
      conv => lhs; unfold Sort.reverseLoop
      rw [if_pos hlt]
    exact ⟨f - 1, _, 1, by omega, fgts, i + 1, j - 1, Sort.swp d' i j, by omega, by omega, by omega, by rw [swp_size]; exact hd, hF2, rfl, congrArg (fun es => [some (⟨ver, 121, 2, es⟩ : AObj)]) (swp_enc (by omega) (by omega))⟩
  · refine CmpW.N ?_
    refine gos ?_
    refine RetW.plain (by simp) ?_
    rw [hF]
    unfold Sort.reverseLoop
    rw [if_neg hlt]
    exact ⟨rfl, rfl⟩
end Go.Proofs.YtjjppmbojcgdgaaGreatDoor

namespace Go.Proofs.YtjjppmbojcgdgaaGreatDoor
open Go Go.Abs
attribute [local irreducible] DrawW CallW RetW AC Does CmpW
variable {G : Globs}
theorem insR_does (d : Array Rg) (a b ver : Nat) (hb : b ≤ d.size) (hs : d.size < 1000000) (ha : a < 1000000) :
    Does Tryz.prog G 213 [.sl 0 ver, .int .i64 a, .int .i64 b, cmpV] [some (rgs ver d)] fun ae O => ae = .ret (.tuple []) ∧ O = [some (rgs ver (Sort.insertionSort ltR d a b))] := by
  refine Does.body tab Tryz.func213 rfl rfl ?_
  refine gos ?_
  refine AC.loopC tab (fun f e h => ∃ (i : Nat) (d' : Array Rg), b < f + i ∧ a + 1 ≤ i ∧ i < 2000000 ∧ d'.size = d.size ∧ Sort.insertionSort ltR d a b = Sort.insOuter ltR a b i d' ∧ e = [.sl 0 ver, .int .i64 a, .int .i64 b, cmpV, .any, .any, .any, .any, .int .i64 i] ++ List.replicate 44 .any ∧ h = [some (rgs ver d')])
    (b + 1) ⟨_, fgts, a + 1, d, by omega, by omega, by omega, rfl, rfl, rfl, rfl⟩ ?_
  rintro f e h ⟨i, d', hf, hai, hi2, hd, hF, rfl, rfl⟩
  refine gos ?_
  by_cases hib : i < b
  · refine CmpW.T ?_
    refine gos ?_
    have hF2 : Sort.insertionSort ltR d a b = Sort.insOuter ltR a b (i + 1) (Sort.insInner ltR a i d') := by
      rw [hF]
      conv => lhs; unfold Sort.insOuter
      rw [if_pos hib]
    refine AC.loopC tab (fun g e h => ∃ (j : Nat) (d2 : Array Rg), j < g ∧ j ≤ i ∧ d2.size = d.size ∧ Sort.insInner ltR a i d' = Sort.insInner ltR a j d2 ∧ e = [.sl 0 ver, .int .i64 a, .int .i64 b, cmpV, .any, .any, .any, .any, .int .i64 i, .int .i64 j] ++ List.replicate 43 .any ∧ h = [some (rgs ver d2)])
      (i + 1) ⟨_, fgts, i, d', by omega, by omega, hd, rfl, rfl, rfl⟩ ?_
    rintro g e h ⟨j, d2, hg, hj, hd2, hI, rfl, rfl⟩
    refine gos ?_
    refine DrawW.L ?_
    (repeat (first | refine gof ?_ | refine fun (vv : Nat) => ?_))
    have stop : (∀ k, j = k + 1 → ¬ (k + 1 > a ∧ ltR d2[k + 1]! d2[k]! = true)) → Sort.insInner ltR a i d' = d2 := fun h => by
      rw [hI]
      cases j with
      | zero => rfl
      | succ k =>
        unfold Sort.insInner
        rw [if_neg (by simpa using h k rfl)]
    by_cases hja : a < j
    · obtain ⟨k, rfl⟩ : ∃ k, j = k + 1 := ⟨j - 1, by omega⟩
      refine CmpW.T ?_
      (repeat (first | refine gof ?_ | refine fun (vv : Nat) => ?_))
      refine And.intro (And.intro (by omega) (by first | (rw [rgs_len]; omega) | (simp only [List.length_set]; rw [rgs_len]; omega))) ?_
      (repeat (first | refine gof ?_ | refine fun (vv : Nat) => ?_))
      refine ⟨encG d2[k + 1]!, rgs_get (by omega), ?_⟩
      (repeat (first | refine gof ?_ | refine fun (vv : Nat) => ?_))
      rw [show ((k + 1 : Nat) : Int) - 1 = (k : Int) by omega]
      refine And.intro (And.intro (by omega) (by first | (rw [rgs_len]; omega) | (simp only [List.length_set]; rw [rgs_len]; omega))) ?_
      (repeat (first | refine gof ?_ | refine fun (vv : Nat) => ?_))
      refine ⟨encG d2[k]!, rgs_get (by omega), ?_⟩
      (repeat (first | refine gof ?_ | refine fun (vv : Nat) => ?_))
      refine CallW.pure (cmpR_does d2[k + 1]! d2[k]!) rfl rfl ?_
      (repeat (first | refine gof ?_ | refine fun (vv : Nat) => ?_))
      by_cases hc : ltR d2[k + 1]! d2[k]! = true
      · refine CmpW.t (by simpa using (ltR_iff _ _).2 hc) ?_
        refine gos ?_
        refine DrawW.L ?_
        (repeat (first | refine gof ?_ | refine fun (vv : Nat) => ?_))
        simp only [show ((k + 1 : Nat) : Int) - 1 = (k : Int) by omega]
        refine And.intro (And.intro (by omega) (by first | (rw [rgs_len]; omega) | (simp only [List.length_set]; rw [rgs_len]; omega))) ?_
        (repeat (first | refine gof ?_ | refine fun (vv : Nat) => ?_))
        refine ⟨encG d2[k]!, rgs_get (by omega), ?_⟩
        (repeat (first | refine gof ?_ | refine fun (vv : Nat) => ?_))
        refine And.intro (And.intro (by omega) (by first | (rw [rgs_len]; omega) | (simp only [List.length_set]; rw [rgs_len]; omega))) ?_
        (repeat (first | refine gof ?_ | refine fun (vv : Nat) => ?_))
        refine ⟨encG d2[k + 1]!, rgs_get (by omega), ?_⟩
        (repeat (first | refine gof ?_ | refine fun (vv : Nat) => ?_))
        refine And.intro (And.intro (by omega) (by first | (rw [rgs_len]; omega) | (simp only [List.length_set]; rw [rgs_len]; omega))) ?_
        (repeat (first | refine gof ?_ | refine fun (vv : Nat) => ?_))
        refine ⟨encG d2[k + 1]!, rgs_get (by omega), ?_⟩
        (repeat (first | refine gof ?_ | refine fun (vv : Nat) => ?_))
        refine And.intro (And.intro (by omega) (by first | (rw [rgs_len]; omega) | (simp only [List.length_set]; rw [rgs_len]; omega))) ?_
        (repeat (first | refine gof ?_ | refine fun (vv : Nat) => ?_))
        refine ⟨encG d2[k]!, by show ((rgs ver d2).es.set (k + 1) _)[k]? = _; rw [List.getElem?_set_ne (by omega)]; exact rgs_get (by omega), ?_⟩
        (repeat (first | refine gof ?_ | refine fun (vv : Nat) => ?_))
        simp only [show ((k + 1 : Nat) : Int) - 1 = (k : Int) by omega]
        have hI2 : Sort.insInner ltR a i d' = Sort.insInner ltR a k (Sort.swp d2 (k + 1) k) := by
          rw [hI]
          conv => lhs; unfold Sort.insInner
          rw [if_pos (by simp [hc]; omega)]
        exact ⟨g - 1, _, 1, by omega, fgts, k, Sort.swp d2 (k + 1) k, by omega, by omega, by rw [swp_size]; exact hd2, hI2, rfl, congrArg (fun es => [some (⟨ver, 121, 2, es⟩ : AObj)]) (swp_enc (by omega) (by omega))⟩
      · refine CmpW.f (by simpa using fun h => hc ((ltR_iff _ _).1 h)) ?_
        refine gos ?_
        have hst : Sort.insInner ltR a i d' = d2 := stop (fun q hq h => by
          have e : q = k := by omega
          subst e
          exact hc h.2)
        rw [hst] at hF2
        exact ⟨f - 1, _, 1, by omega, fgts, i + 1, d2, by omega, by omega, by omega, hd2, hF2, rfl, rfl⟩
    · refine CmpW.N ?_
      refine gos ?_
      rw [stop (fun k hk h => by omega)] at hF2
      exact ⟨f - 1, _, 1, by omega, fgts, i + 1, d2, by omega, by omega, by omega, hd2, hF2, rfl, rfl⟩
  · refine CmpW.N ?_
    refine gos ?_
    refine RetW.plain (by simp) ?_
    rw [hF]
    unfold Sort.insOuter
    rw [if_neg hib]
    exact ⟨rfl, rfl⟩
end Go.Proofs.YtjjppmbojcgdgaaGreatDoor
