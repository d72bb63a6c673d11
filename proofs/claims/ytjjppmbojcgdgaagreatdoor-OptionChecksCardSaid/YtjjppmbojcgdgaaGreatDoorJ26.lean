/- Something for each of texts' categories. -/
import Derived.Test.YtjjppmbojcgdgaaGreatDoorJ25
set_option linter.unusedVariables false
set_option linter.unusedSimpArgs false
set_option maxRecDepth 100000
set_option maxHeartbeats 4000000

namespace Go.Proofs.YtjjppmbojcgdgaaGreatDoor
open Go Go.Abs
attribute [local irreducible] DrawW CallW RetW AC Does CmpW
variable {G : Globs}
theorem methC {P : Program} {f : FuncId} {s : AHeap} {K KP : AV → AHeap → Prop} {x : List AV} {r : AV} (i : Nat) {v : Nat} {o o' : AObj} (h : Does P G f (.ptr 0 v 0 0 :: x) [some o] fun ae O => ae = .ret r ∧ O = [some o']) (ho : s[i]? = some (some o))
    (hx : closedL x = true) (hco : closedLL o.es = true) (hco' : closedLL o'.es = true) (hr : closed r = true) (k : setHK s i o' (K r)) : CallW P G f (.ptr i v 0 0 :: x) s K KP :=
  CallW.meth i h ho (by simp [renL, ren, renL_closed _ _ hx]) (by simp [insideL, inside, insideL_closed _ _ hx]) hco hco' hr k
theorem byG_snoc {α : Type} (read : List UInt8 → α) (x : TTxt) : ∀ (l : List TTxt) (b : BC α), byG read b (l ++ [x]) = putC (byG read b l) x.cat (read x.text)
  | [], b => rfl
  | y :: l, b => by rw [List.cons_append, byG, byG_snoc read x l]; rfl
theorem bcC_closed {α : Type} {enc : α → List AV} {b : BC α} (h : ∀ d, closedL (enc (atN b d)) = true) : closedLL [bcC enc b] = true := by
  have h0 := h 0
  have h1 := h 1
  have h2 := h 2
  have h3 := h 3
  have h4 := h 4
  have h5 := h 5
  simp only [atN] at h0 h1 h2 h3 h4 h5
  have app : ∀ a c : List AV, closedL a = true → closedL c = true → closedL (a ++ c) = true := fun a c ha hc => by
    induction a with
    | nil => exact hc
    | cons x a ih =>
      simp only [closedL, Bool.and_eq_true] at ha
      simp only [List.cons_append, closedL, ha.1, ih ha.2, Bool.and_self]
  have hs : closedL b.hs = true := rfl
  have := app _ _ (app _ _ (app _ _ (app _ _ (app _ _ (app _ _ h0 h1) h2) h3) h4) h5) hs
  simp only [closedLL, bcC, this, Bool.and_self]
theorem putN_all {α : Type} {p : α → Prop} {b : BC α} {c : Nat} {v : α} (h : ∀ d, p (atN b d)) (hv : p v) : ∀ d, p (atN (putN b c v) d) := by
  intro d
  have h0 := h 0
  have h1 := h 1
  have h2 := h 2
  have h3 := h 3
  have h4 := h 4
  have h5 := h 5
  match c with
  | 0 => match d with
    | 0 => exact hv
    | 1 => exact h1
    | 2 => exact h2
    | 3 => exact h3
    | 4 => exact h4
    | _ + 5 => exact h5
  | 1 => match d with
    | 0 => exact h0
    | 1 => exact hv
    | 2 => exact h2
    | 3 => exact h3
    | 4 => exact h4
    | _ + 5 => exact h5
  | 2 => match d with
    | 0 => exact h0
    | 1 => exact h1
    | 2 => exact hv
    | 3 => exact h3
    | 4 => exact h4
    | _ + 5 => exact h5
  | 3 => match d with
    | 0 => exact h0
    | 1 => exact h1
    | 2 => exact h2
    | 3 => exact hv
    | 4 => exact h4
    | _ + 5 => exact h5
  | 4 => match d with
    | 0 => exact h0
    | 1 => exact h1
    | 2 => exact h2
    | 3 => exact h3
    | 4 => exact hv
    | _ + 5 => exact h5
  | 5 => match d with
    | 0 => exact h0
    | 1 => exact h1
    | 2 => exact h2
    | 3 => exact h3
    | 4 => exact h4
    | _ + 5 => exact hv
  | _ + 6 => exact h d
theorem putC_all {α : Type} {p : α → Prop} {b : BC α} {c : Int} {v : α} (h : ∀ d, p (atN b d)) (hv : p v) : ∀ d, p (atN (putC b c v) d) := by
  unfold putC
  split
  · exact putN_all h hv
  · exact h
theorem byG_all {α : Type} {p : α → Prop} {read : List UInt8 → α} (hr : ∀ s, p (read s)) : ∀ (l : List TTxt) (b : BC α), (∀ d, p (atN b d)) → ∀ d, p (atN (byG read b l) d)
  | [], _, h => h
  | x :: l, b, h => byG_all hr l (putC b x.cat (read x.text)) (putC_all h (hr _))
theorem bc0_all {α : Type} {p : α → Prop} {z : α} (h : p z) : ∀ d, p (atN (bc0 z) d) := fun d => by
  match d with
  | 0 => exact h
  | 1 => exact h
  | 2 => exact h
  | 3 => exact h
  | 4 => exact h
  | _ + 5 => exact h
theorem byC_closed {α : Type} {enc : α → List AV} {z : α} {read : List UInt8 → α} (hz : closedL (enc z) = true) (hr : ∀ s, closedL (enc (read s)) = true) (l : List TTxt) : closedLL [bcC enc (byC z read l)] = true :=
  bcC_closed (byG_all (p := fun x => closedL (enc x) = true) hr l _ (bc0_all (p := fun x => closedL (enc x) = true) hz))
theorem byStr_does (l : List TTxt) (hl : l.length < 100000) (fn : FuncId) (cap : List AV) (hcap : closedL cap = true) (read : List UInt8 → List UInt8) (hrc : ∀ s, closedL (encS1 (read s)) = true)
    (hread : ∀ x ∈ l, Does Tryz.prog G fn ([] ++ [.str x.text] ++ cap) [] fun ae _ => ae = .ret ((AV.str) (read x.text))) :
    Does Tryz.prog G 72 [txtL l, .func (.func fn) [] cap] [] fun ae _ => ae = .ret (.fptr (bcC encS1 (byC [] read l))) := by
  have hll : (l.map encT).length = l.length := by simp
  refine Does.bodyA tab Tryz.func72 rfl rfl ?_
  refine AC.step tab ?_
  refine gos ?_
  refine AC.step tab ?_
  refine gos ?_
  intro v1
  refine gos ?_
  have hBC : ∀ i, closedLL [bcC encS1 (byG read (bc0 []) (l.take i))] = true := fun i => byC_closed rfl hrc (l.take i)
  refine AC.cutA (fun e h => e = (List.replicate 5 .any ++ [.ptr 0 v1 0 0] ++ List.replicate 20 .any) ∧ h = [some ⟨v1, 273, 12, [bcC encS1 (byC [] read l)]⟩]) ?_ ?_
  · refine AC.step tab ?_
    refine gos ?_
    rw [hll]
    refine AC.blk ?_
    refine AC.loopA (fun f e h => ∃ i : Nat, f + i = l.length + 1 ∧ i ≤ l.length ∧ e = (List.replicate 1 .any ++ [.func (.func fn) [] cap] ++ List.replicate 3 .any ++ [.ptr 0 v1 0 0] ++ List.replicate 4 .any ++ [.fsl (l.map encT), .int .i64 l.length, .int .i64 i] ++ List.replicate 13 .any) ∧
        h = [some ⟨v1, 273, 12, [bcC encS1 (byG read (bc0 []) (l.take i))]⟩]) (l.length + 1) ⟨_, fgts, 0, by omega, by omega, rfl, rfl⟩ ?_
    rintro f e h ⟨i, hf, hi, rfl, rfl⟩
    refine AC.step tab ?_
    refine gos ?_
    by_cases hlt : i < l.length
    · obtain ⟨x, hx⟩ : ∃ d, l[i]? = some d := ⟨_, List.getElem?_eq_getElem hlt⟩
      have htk : byG read (bc0 []) (l.take (i + 1)) = putC (byG read (bc0 []) (l.take i)) x.cat (read x.text) := by
        rw [List.take_add_one, hx]
        exact byG_snoc read x _ _
      have hR := hread x (List.mem_of_getElem? hx)
      have hR2 := hrc x.text
      refine CmpW.T ?_
      refine gos ?_
      refine AC.step tab ?_
      refine gos ?_
      refine AC.seqA ?_
      refine AC.blk ?_
      refine AC.step tab ?_
      refine gos ?_
      refine And.intro (encT_two l) (And.intro (by omega) ⟨encT x, by rw [Int.toNat_natCast]; exact map_get hx, ?_⟩)
      refine gos ?_
      intro v2
      refine gos ?_
      refine AC.wk (Wk.ptr (k := 7) (i := 1) rfl rfl rfl rfl rfl) ?_
      refine AC.go tab ?_
      refine DrawW.P (.take 0 (.take 1 (.takeF 2 (.take 3 (.take 4 (.takeF 5 (.take 6 (.take 7 .done)))))))) ?_
      refine gos ?_
      refine CallW.pure hR (by simp [closedL, closed, hcap]) rfl ?_
      refine gos ?_
      refine methC 0 (StrPut_does v1 _ x.cat (read x.text)) rfl (by simp [closedL, closed]) (hBC i) (by rw [← htk]; exact hBC (i + 1)) rfl ?_
      refine gos ?_
      refine AC.go tab ?_
      refine gos ?_
      exact ⟨f - 1, _, 1, by omega, fgts, i + 1, by omega, by omega, rfl, by rw [htk]; rfl⟩
    · refine CmpW.N ?_
      refine gos ?_
      refine AC.step tab ?_
      refine gos ?_
      have : i = l.length := by omega
      subst this
      exact ⟨_, 1, fgts, rfl, by rw [List.take_length]; rfl⟩
  rintro e h ⟨rfl, rfl⟩
  refine AC.go tab ?_
  refine gos ?_
  refine RetW.wk (r' := .fptr (bcC encS1 (byC [] read l))) (by simp) ?_ (Wk.ptr (k := 0) (i := 0) rfl rfl rfl rfl (byC_closed rfl hrc l)) ?_
  · rfl
  rfl
theorem byBra_does (l : List TTxt) (hl : l.length < 100000) (fn : FuncId) (cap : List AV) (hcap : closedL cap = true) (read : List UInt8 → List (List AV) × List (List AV)) (hrc : ∀ s, closedL (encB (read s)) = true)
    (hread : ∀ x ∈ l, Does Tryz.prog G fn ([] ++ [.str x.text] ++ cap) [] fun ae _ => ae = .ret ((fun x => AV.agg (encB x)) (read x.text))) :
    Does Tryz.prog G 70 [txtL l, .func (.func fn) [] cap] [] fun ae _ => ae = .ret (.fptr (bcC encB (byC ([], []) read l))) := by
  have hll : (l.map encT).length = l.length := by simp
  refine Does.bodyA tab Tryz.func70 rfl rfl ?_
  refine AC.step tab ?_
  refine gos ?_
  refine AC.step tab ?_
  refine gos ?_
  intro v1
  refine gos ?_
  refine AC.unnilC 0 rfl ?_
  have hBC : ∀ i, closedLL [bcC encB (byG read (bc0 ([], [])) (l.take i))] = true := fun i => byC_closed rfl hrc (l.take i)
  refine AC.cutA (fun e h => e = (List.replicate 5 .any ++ [.ptr 0 v1 0 0] ++ List.replicate 20 .any) ∧ h = [some ⟨v1, 267, 18, [bcC encB (byC ([], []) read l)]⟩]) ?_ ?_
  · refine AC.step tab ?_
    refine gos ?_
    rw [hll]
    refine AC.blk ?_
    refine AC.loopA (fun f e h => ∃ i : Nat, f + i = l.length + 1 ∧ i ≤ l.length ∧ e = (List.replicate 1 .any ++ [.func (.func fn) [] cap] ++ List.replicate 3 .any ++ [.ptr 0 v1 0 0] ++ List.replicate 4 .any ++ [.fsl (l.map encT), .int .i64 l.length, .int .i64 i] ++ List.replicate 13 .any) ∧
        h = [some ⟨v1, 267, 18, [bcC encB (byG read (bc0 ([], [])) (l.take i))]⟩]) (l.length + 1) ⟨_, fgts, 0, by omega, by omega, rfl, rfl⟩ ?_
    rintro f e h ⟨i, hf, hi, rfl, rfl⟩
    refine AC.step tab ?_
    refine gos ?_
    by_cases hlt : i < l.length
    · obtain ⟨x, hx⟩ : ∃ d, l[i]? = some d := ⟨_, List.getElem?_eq_getElem hlt⟩
      have htk : byG read (bc0 ([], [])) (l.take (i + 1)) = putC (byG read (bc0 ([], [])) (l.take i)) x.cat (read x.text) := by
        rw [List.take_add_one, hx]
        exact byG_snoc read x _ _
      have hR := hread x (List.mem_of_getElem? hx)
      have hR2 := hrc x.text
      refine CmpW.T ?_
      refine gos ?_
      refine AC.step tab ?_
      refine gos ?_
      refine AC.seqA ?_
      refine AC.blk ?_
      refine AC.step tab ?_
      refine gos ?_
      refine And.intro (encT_two l) (And.intro (by omega) ⟨encT x, by rw [Int.toNat_natCast]; exact map_get hx, ?_⟩)
      refine gos ?_
      intro v2
      refine gos ?_
      refine AC.wk (Wk.ptr (k := 7) (i := 1) rfl rfl rfl rfl rfl) ?_
      refine AC.go tab ?_
      refine DrawW.P (.take 0 (.take 1 (.takeF 2 (.take 3 (.take 4 (.takeF 5 (.take 6 (.take 7 .done)))))))) ?_
      refine gos ?_
      refine CallW.pure hR (by simp [closedL, closed, hcap]) (by simpa [closed] using hR2) ?_
      refine gos ?_
      refine methC 0 (BraPut_does v1 _ x.cat (read x.text)) rfl (by simp [closedL, closed, hR2]) (hBC i) (by rw [← htk]; exact hBC (i + 1)) rfl ?_
      refine gos ?_
      refine AC.go tab ?_
      refine gos ?_
      exact ⟨f - 1, _, 1, by omega, fgts, i + 1, by omega, by omega, rfl, by rw [htk]; rfl⟩
    · refine CmpW.N ?_
      refine gos ?_
      refine AC.step tab ?_
      refine gos ?_
      have : i = l.length := by omega
      subst this
      exact ⟨_, 1, fgts, rfl, by rw [List.take_length]; rfl⟩
  rintro e h ⟨rfl, rfl⟩
  refine AC.go tab ?_
  refine gos ?_
  refine RetW.wk (r' := .fptr (bcC encB (byC ([], []) read l))) (by simp) ?_ (Wk.ptr (k := 0) (i := 0) rfl rfl rfl rfl (byC_closed rfl hrc l)) ?_
  · rfl
  rfl
theorem byCpa_does (l : List TTxt) (hl : l.length < 100000) (fn : FuncId) (cap : List AV) (hcap : closedL cap = true) (read : List UInt8 → CD) (hrc : ∀ s, closedL (CD.cells (read s)) = true)
    (hread : ∀ x ∈ l, Does Tryz.prog G fn ([] ++ [.str x.text] ++ cap) [] fun ae _ => ae = .ret ((fun x => AV.agg (CD.cells x)) (read x.text))) :
    Does Tryz.prog G 161 [txtL l, .func (.func fn) [] cap] [] fun ae _ => ae = .ret (.fptr (bcC CD.cells (byC cd0 read l))) := by
  have hll : (l.map encT).length = l.length := by simp
  refine Does.bodyA tab Tryz.func161 rfl rfl ?_
  refine AC.step tab ?_
  refine gos ?_
  refine AC.step tab ?_
  refine gos ?_
  intro v1
  refine gos ?_
  refine AC.unnilC 0 rfl ?_
  have hBC : ∀ i, closedLL [bcC CD.cells (byG read (bc0 cd0) (l.take i))] = true := fun i => byC_closed rfl hrc (l.take i)
  refine AC.cutA (fun e h => e = (List.replicate 5 .any ++ [.ptr 0 v1 0 0] ++ List.replicate 20 .any) ∧ h = [some ⟨v1, 309, 84, [bcC CD.cells (byC cd0 read l)]⟩]) ?_ ?_
  · refine AC.step tab ?_
    refine gos ?_
    rw [hll]
    refine AC.blk ?_
    refine AC.loopA (fun f e h => ∃ i : Nat, f + i = l.length + 1 ∧ i ≤ l.length ∧ e = (List.replicate 1 .any ++ [.func (.func fn) [] cap] ++ List.replicate 3 .any ++ [.ptr 0 v1 0 0] ++ List.replicate 4 .any ++ [.fsl (l.map encT), .int .i64 l.length, .int .i64 i] ++ List.replicate 13 .any) ∧
        h = [some ⟨v1, 309, 84, [bcC CD.cells (byG read (bc0 cd0) (l.take i))]⟩]) (l.length + 1) ⟨_, fgts, 0, by omega, by omega, rfl, rfl⟩ ?_
    rintro f e h ⟨i, hf, hi, rfl, rfl⟩
    refine AC.step tab ?_
    refine gos ?_
    by_cases hlt : i < l.length
    · obtain ⟨x, hx⟩ : ∃ d, l[i]? = some d := ⟨_, List.getElem?_eq_getElem hlt⟩
      have htk : byG read (bc0 cd0) (l.take (i + 1)) = putC (byG read (bc0 cd0) (l.take i)) x.cat (read x.text) := by
        rw [List.take_add_one, hx]
        exact byG_snoc read x _ _
      have hR := hread x (List.mem_of_getElem? hx)
      have hR2 := hrc x.text
      refine CmpW.T ?_
      refine gos ?_
      refine AC.step tab ?_
      refine gos ?_
      refine AC.seqA ?_
      refine AC.blk ?_
      refine AC.step tab ?_
      refine gos ?_
      refine And.intro (encT_two l) (And.intro (by omega) ⟨encT x, by rw [Int.toNat_natCast]; exact map_get hx, ?_⟩)
      refine gos ?_
      intro v2
      refine gos ?_
      refine AC.wk (Wk.ptr (k := 7) (i := 1) rfl rfl rfl rfl rfl) ?_
      refine AC.go tab ?_
      refine DrawW.P (.take 0 (.take 1 (.takeF 2 (.take 3 (.take 4 (.takeF 5 (.take 6 (.take 7 .done)))))))) ?_
      refine gos ?_
      refine CallW.pure hR (by simp [closedL, closed, hcap]) (by simpa [closed] using hR2) ?_
      refine gos ?_
      refine methC 0 (CpaPut_does v1 _ x.cat (read x.text)) rfl (by simp [closedL, closed, hR2]) (hBC i) (by rw [← htk]; exact hBC (i + 1)) rfl ?_
      refine gos ?_
      refine AC.go tab ?_
      refine gos ?_
      exact ⟨f - 1, _, 1, by omega, fgts, i + 1, by omega, by omega, rfl, by rw [htk]; rfl⟩
    · refine CmpW.N ?_
      refine gos ?_
      refine AC.step tab ?_
      refine gos ?_
      have : i = l.length := by omega
      subst this
      exact ⟨_, 1, fgts, rfl, by rw [List.take_length]; rfl⟩
  rintro e h ⟨rfl, rfl⟩
  refine AC.go tab ?_
  refine gos ?_
  refine RetW.wk (r' := .fptr (bcC CD.cells (byC cd0 read l))) (by simp) ?_ (Wk.ptr (k := 0) (i := 0) rfl rfl rfl rfl (byC_closed rfl hrc l)) ?_
  · rfl
  rfl
end Go.Proofs.YtjjppmbojcgdgaaGreatDoor
