/- Bytes of a kind, one after the other: plain. -/
import Derived.Test.YtpipbjfcbbdicaaGreatDoorJ02
import Derived.Test.YtpipbjfcbbdicaaGreatDoorJ05
import Derived.Test.YtpipbjfcbbdicaaGreatDoorJ01
set_option linter.unusedVariables false
set_option linter.unusedSimpArgs false
set_option maxRecDepth 100000
set_option maxHeartbeats 4000000

namespace Go.Abs
open Go
section
variable {G : Globs} {C : Ctx}
theorem RepLL.setC {C C' : Ctx} (he : Ext C C') : ∀ {es : List (List AV)} {xs : List Value} {n : Nat} {cs cs' : List AV}, RepLL C es xs → es[n]? = some cs → (∀ us, RepL C cs us → RepL C' cs' us) → RepLL C' (es.set n cs') xs
  | [], xs, n, cs, cs', h, hn, _ => by simp at hn
  | x :: es, xs, n, cs, cs', h, hn, hk => by
    simp only [RepLL] at h
    obtain ⟨p, r, rfl, h1, h2⟩ := h
    cases n with
    | zero =>
      simp only [List.getElem?_cons_zero, Option.some.injEq] at hn
      subst hn
      simp only [List.set_cons_zero, RepLL]
      exact ⟨p, r, rfl, hk p h1, RepLL.ext he _ _ h2⟩
    | succ n =>
      simp only [List.set_cons_succ, RepLL]
      exact ⟨p, r, rfl, RepL.ext he _ _ h1, RepLL.setC he h2 (by simpa using hn) hk⟩
theorem good_cell {i j n k : Nat} {o : AObj} {cs : List AV} {a a' : AV} (hg : Good G C) (hl : C.live j o) (hij : j ≠ i) (he : o.es[n]? = some cs) (hk : cs[k]? = some a) (hr : ∀ u, RepV C a u → RepV (C.free i) a' u) :
    Good G ((C.free i).see j { o with es := o.es.set n (cs.set k a') }) ∧ Ext C ((C.free i).see j { o with es := o.es.set n (cs.set k a') }) := by
  obtain ⟨o', ho'⟩ : ∃ o' : AObj, o' = { o with es := o.es.set n (cs.set k a') } := ⟨_, rfl⟩
  rw [← ho']
  have hv : o'.ver = o.ver := by rw [ho']
  have ht : o'.t = o.t := by rw [ho']
  have hz : o'.sz = o.sz := by rw [ho']
  have hlen : o'.es.length = o.es.length := by rw [ho']; simp
  have hlv : (C.free i).live j o := by
    unfold Ctx.live Ctx.free
    rw [List.getElem?_set_ne (fun e => hij e.symm)]; exact hl
  have e1 : Ext (C.free i) ((C.free i).see j o') := ⟨rfl, rfl, rfl, Nat.le_refl _, Nat.le_refl _, rfl, fun _ _ => rfl, fun q x hx _ => by
    rcases see_live hx with ⟨rfl, rfl⟩ | ⟨_, hx⟩
    · exact ⟨o, hlv, hv.symm, hz.symm, rfl⟩
    · exact ⟨x, hx, rfl, rfl, rfl⟩,
   fun b hb => ⟨⟨hb.1, fun q x hx => by
    rcases see_live hx with ⟨rfl, rfl⟩ | ⟨_, hx⟩
    · exact hb.2.1 _ o hlv
    · exact hb.2.1 q x hx, hb.2.2⟩, rfl⟩⟩
  have ee : Ext C ((C.free i).see j o') := (ext_free i).trans e1
  have g1 := good_free hg i
  obtain ⟨a1, a2, a3, ys, a4, a5, a6⟩ := hg.obj j o hl
  have hrep : RepLL ((C.free i).see j o') o'.es ys := by
    have h1 : RepLL (C.free i) o'.es ys := by
      rw [ho']
      refine RepLL.setC (ext_free i) a5 he fun us hu => RepL.setV' (ext_free i) hu fun b u hb hu => ?_
      rw [hk] at hb
      simp only [Option.some.injEq] at hb
      subst hb
      exact hr u hu
    exact RepLL.ext e1 _ _ h1
  refine ⟨⟨fun q x hx => ?_, fun q r x y hx hy => ?_, fun q x hx => ?_, g1.out, fun p hp => ?_⟩, ee⟩
  · rcases see_live hx with ⟨rfl, rfl⟩ | ⟨_, hx⟩
    · refine ⟨by rw [hv]; exact a1, by rw [hz]; exact a2, fun e hm => ?_, ys, by rw [ht, hz, hlen]; exact a4, hrep, a6⟩
      rw [ho'] at hm
      rcases List.mem_or_eq_of_mem_set hm with hm | rfl
      · rw [hz]; exact a3 e hm
      · rw [List.length_set, hz]; exact a3 cs (List.mem_of_getElem? he)
    · obtain ⟨b1, b2, b3, zs, b4, b5, b6⟩ := g1.obj q x hx
      exact ⟨b1, b2, b3, zs, b4, RepLL.ext e1 _ _ b5, b6⟩
  · have up : ∀ {q : Nat} {x : AObj}, ((C.free i).see j o').live q x → ∃ y, (C.free i).live q y := fun {q x} h => by
      rcases see_live h with ⟨rfl, rfl⟩ | ⟨_, h⟩
      · exact ⟨o, hlv⟩
      · exact ⟨x, h⟩
    obtain ⟨x', hx'⟩ := up hx
    obtain ⟨y', hy'⟩ := up hy
    exact g1.apart q r x' y' hx' hy'
  · rcases see_live hx with ⟨rfl, rfl⟩ | ⟨_, hx⟩
    · exact g1.own _ o hlv
    · exact g1.own q x hx
  · obtain ⟨us, b1, b2, b3⟩ := g1.glob p hp
    exact ⟨us, (e1.fz _ b1).1, reads_ext e1.fext b1 b2, RepFL.ext e1.fext _ _ b3⟩
/-- A row that a cell of an object's element names is given up. -/
theorem AC.rowC {P : Program} {c : Code} {Q : AQ} {e : Env} {s : AHeap} (i j n k : Nat) {ver : Nat} {o oi : AObj} {cs : List AV} (hj : s[j]? = some (some o)) (hi : s[i]? = some (some oi)) (hij : j ≠ i) (he : o.es[n]? = some cs) (hk : cs[k]? = some (.sl i ver)) (hv : oi.ver = ver) (hc : closedLL oi.es = true)
    (h : AC P G c Q e ((s.set i none).set j (some { o with es := o.es.set n (cs.set k (.fsl oi.es)) }))) : AC P G c Q e s := by
  intro ds C0 C a hf hs
  subst hs
  obtain ⟨k1, k2⟩ := good_cell (a' := .fsl oi.es) hf.good hj hij he hk (fun u hu => RepV.freeze hf.good hi hv hc hu)
  exact h ds C0 ((C.free i).see j { o with es := o.es.set n (cs.set k (.fsl oi.es)) }) a ⟨k1, RepL.ext k2 _ _ hf.rep, hf.defers, hf.ext.trans k2⟩ rfl
/-- A cell that is nil, read as an empty row. -/
theorem AC.nilC {P : Program} {c : Code} {Q : AQ} {e : Env} {s : AHeap} (j n k : Nat) {o : AObj} {cs : List AV} (hj : s[j]? = some (some o)) (he : o.es[n]? = some cs) (hk : cs[k]? = some .nils)
    (h : AC P G c Q e (s.set j (some { o with es := o.es.set n (cs.set k (.fsl [])) }))) : AC P G c Q e s := by
  intro ds C0 C a hf hs
  subst hs
  have hl : j < C.s.length := (List.getElem?_eq_some_iff.1 hj).1
  obtain ⟨k1, k2⟩ := good_cell (i := C.s.length) (a' := .fsl []) hf.good hj (by omega) he hk (fun u hu => by
    simp only [RepV, RepF] at hu ⊢
    subst hu
    exact ⟨none, 0, Nat.le_refl _, rfl, .inl (by simp)⟩)
  refine h ds C0 ((C.free C.s.length).see j { o with es := o.es.set n (cs.set k (.fsl [])) }) a ⟨k1, RepL.ext k2 _ _ hf.rep, hf.defers, hf.ext.trans k2⟩ ?_
  show (C.s.set C.s.length none).set j _ = C.s.set j _
  rw [List.set_eq_of_length_le (Nat.le_refl _)]
end
end Go.Abs

namespace Go.Proofs.YtpipbjfcbbdicaaGreatDoor
open Go Go.Abs
attribute [local irreducible] DrawW CallW RetW AC Does CmpW
variable {G : Globs}

def oneT (s : List UInt8) : List TTxt := [⟨5, s⟩]
def twoT (s t : List UInt8) : List TTxt := [⟨1, s⟩, ⟨5, t⟩]
theorem One_does (s : List UInt8) : Does Tryz.prog G 12 [.str s] [] fun ae _ => ae = .ret (txtL (oneT s)) := by
  refine Does.body tab Tryz.func12 rfl rfl ?_
  (repeat (first | refine gof ?_ | refine fun (vv : Nat) => ?_))
  refine RetW.wk (r' := txtL (oneT s)) (by simp) ?_ (Wk.row (k := 0) (i := 0) (o := ⟨vv, 87, 2, [[.int .i64 5, .str s]]⟩) rfl rfl rfl rfl) ?_ <;> rfl
theorem Two_does (s t : List UInt8) : Does Tryz.prog G 50 [.str s, .str t] [] fun ae _ => ae = .ret (txtL (twoT s t)) := by
  refine Does.body tab Tryz.func50 rfl rfl ?_
  (repeat (first | refine gof ?_ | refine fun (vv : Nat) => ?_))
  refine RetW.wk (r' := txtL (twoT s t)) (by simp) ?_ (Wk.row (k := 0) (i := 0) (o := ⟨vv, 87, 2, [[.int .i64 1, .str s], [.int .i64 5, .str t]]⟩) rfl rfl rfl rfl) ?_ <;> rfl
def plainD : TDig := ⟨[48], [49], [50], [51], [52], [53], [54], [55], [56], [57]⟩
theorem Plain_does : Does Tryz.prog G 49 [] [] fun ae _ => ae = .ret (.agg plainD.cells) := by
  refine Does.bodyA tab Tryz.func49 rfl rfl ?_
  refine AC.step tab ?_
  refine gos ?_
  intro v0
  refine gos ?_
  refine AC.step tab ?_
  refine gos ?_
  intro v1
  refine gos ?_
  refine AC.cutF tab (fun e h => e = [.ptr 0 v0 0 0, .ptr 1 v1 0 0] ++ List.replicate 12 .any ∧ h = [some ⟨v0, 23, 10, [[.str [], .str [], .str [], .str [], .str [], .str [], .str [], .str [], .str [], .str []]]⟩, some ⟨v1, 23, 10, [plainD.cells]⟩]) ?_ ?_
  · refine gos ?_
    refine AC.rounds tab 11 ?_
    refine gos ?_
    exact ⟨_, 2, fgts, rfl, rfl⟩
  rintro e h ⟨rfl, rfl⟩
  refine AC.go tab ?_
  refine gos ?_
  refine RetW.plain (by simp) ?_
  rfl
end Go.Proofs.YtpipbjfcbbdicaaGreatDoor

namespace Go.Abs
open Go
section
variable {P : Program} {G : Globs} {f : FuncId} {s : AHeap} {K KP : AV → AHeap → Prop}
/-- A call that is handed the first so many objects, under the names that they have. -/
theorem CallW.fst {av : List AV} {Q : AEnd → AHeap → Prop} (n : Nat) (hn : n ≤ s.length) (h : Does P G f av (s.take n) Q) (hin : insideL n av = true) (hs : insideO n (s.take n) = true)
    (k : ∀ ae s', Q ae s' → s'.length = n → match ae with
      | .ret r => inside n r = true ∧ insideO n s' = true ∧ K r (s' ++ s.drop n)
      | .panic v => inside n v = true ∧ insideO n s' = true ∧ KP v (s' ++ s.drop n)) : CallW P G f av s K KP := by
  have hput : ∀ s' : AHeap, s'.length = n → insideO n s' = true → putR (List.range n) s (List.range n) s' = s' ++ s.drop n := by
    intro s' hl hi
    apply List.ext_getElem?
    intro i
    have hg := putR_get (List.range n) (List.range n) s' s List.nodup_range (by simp [hl]) (fun j hj => Nat.lt_of_lt_of_le (List.mem_range.1 hj) hn) i
    by_cases hlt : i < n
    · rw [hg.1 i (List.getElem?_range hlt), List.getElem?_append_left (by omega)]
      cases hx : s'[i]? with
      | none => simp
      | some o =>
        cases o with
        | none => simp
        | some o => simp [renO_id (insideO_mem hi o (List.mem_of_getElem? hx))]
    · rw [hg.2 (by simpa using hlt), List.getElem?_append_right (by omega), List.getElem?_drop, hl, show n + (i - n) = i by omega]
  refine ⟨List.range n, s.take n, av, ⟨List.nodup_range, by simp; omega, fun j hj => Nat.lt_of_lt_of_le (List.mem_range.1 hj) hn, fun k j hk => ?_, fun o ho => ?_⟩, by simpa using hin, (renL_id _ _ hin).symm, ?_⟩
  · have hk2 : k < n := by
      have := (List.getElem?_eq_some_iff.1 hk).1; simpa using this
    rw [List.getElem?_range hk2] at hk
    simp only [Option.some.injEq] at hk
    subst hk
    rw [List.getElem?_take_of_lt hk2]
    cases hx : s[k]? with
    | none => simp
    | some o =>
      cases o with
      | none => simp
      | some o => simp [renO_id (insideO_mem hs o (List.mem_of_getElem? (by rw [List.getElem?_take_of_lt hk2]; exact hx)))]
  · simpa using insideO_mem hs o ho
  · intro C cargs hg hs1 hr
    refine CallsF.mono ?_ (h C cargs hg hs1 hr)
    rintro e w ⟨ae, C', h1, h2, h3, h4, h5, h6⟩
    refine ⟨ae, C', h1, h2, h3, h4, ?_, h6⟩
    have h4' : C'.s.length = n := by rw [h4]; simp; omega
    have := k ae _ h5 h4'
    cases ae with
    | ret r =>
      obtain ⟨k1, k2, k3⟩ := this
      simp only [ren_id _ _ k1, hput _ h4' k2]
      exact k3
    | panic v =>
      obtain ⟨k1, k2, k3⟩ := this
      simp only [ren_id _ _ k1, hput _ h4' k2]
      exact k3
end
end Go.Abs
namespace Go.Proofs.YtpipbjfcbbdicaaGreatDoor
open Go Go.Abs
attribute [local irreducible] DrawW CallW RetW AC Does CmpW
variable {G : Globs}

def allB (p : Nat → Bool) (n : Nat) : Bool := (List.range n).all p
theorem allB_t {p : Nat → Bool} {n : Nat} (h : ∀ j, j < n → p j = true) : allB p n = true := by
  unfold allB; rw [List.all_eq_true]; intro j hj; exact h j (by simpa using hj)
theorem allB_f {p : Nat → Bool} {n j : Nat} (hj : j < n) (h : p j = false) : allB p n = false := by
  unfold allB; rw [List.all_eq_false]; exact ⟨j, by simpa using hj, by simp [h]⟩
theorem allB_iff {p : Nat → Bool} {n : Nat} : allB p n = true ↔ ∀ j, j < n → p j = true := by
  unfold allB; rw [List.all_eq_true]
  exact ⟨fun h j hj => h j (by simpa using hj), fun h j hj => h j (by simpa using hj)⟩
theorem lt_step {p : Nat → Bool} {i : Nat} (h : ∀ j, j < i → p j = true) (hi : p i = true) : ∀ j, j < i + 1 → p j = true := fun j hj => by
  by_cases e : j = i
  · rw [e]; exact hi
  · exact h j (by omega)
theorem cl2 {k : IntKind} {n : Int} {x : AV} {cap : List AV} (hx : closed x = true) (hc : closedL cap = true) : closedL ([] ++ [.int k n, x] ++ cap) = true := by
  simp [closedL, closed, hx, hc]

theorem evT_does (l : List TTxt) (p : Nat → Bool) (fid : FuncId) (cap : List AV) (hcap : closedL cap = true) (hl : l.length < 100000)
    (hcall : ∀ i x, l[i]? = some x → Does Tryz.prog G fid ([] ++ [.int .i64 (i : Nat), .agg (encT x)] ++ cap) [] fun ae _ => ae = .ret (.bool (p i))) :
    Does Tryz.prog G 69 [.fsl (l.map encT), .func (.func fid) [] cap] [] fun ae _ => ae = .ret (.bool (allB p l.length)) := by
  refine Does.bodyA tab Tryz.func69 rfl rfl ?_
  refine AC.step tab ?_
  refine gos ?_
  refine AC.cutF tab (fun e h => allB p l.length = true ∧ e = List.replicate 20 .any ∧ h = []) ?_ ?_
  · refine gos ?_
    rw [show (l.map encT).length = l.length by simp]
    refine AC.loopC tab (fun f e h => ∃ i : Nat, f + i = l.length + 1 ∧ i ≤ l.length ∧ (∀ j, j < i → p j = true) ∧ e = [.any, .func (.func fid) [] cap, .any, .any, .any, .any, .any, .fsl (l.map encT), .int .i64 l.length, .int .i64 i] ++ List.replicate 10 .any ∧ h = [])
      (l.length + 1) ⟨_, fgts, 0, by omega, by omega, fun j hj => by omega, rfl, rfl⟩ ?_
    rintro f e h ⟨i, hf, hi, hp, rfl, rfl⟩
    refine gos ?_
    by_cases hlt : i < l.length
    · obtain ⟨x, hx⟩ : ∃ x, l[i]? = some x := ⟨_, List.getElem?_eq_getElem hlt⟩
      refine CmpW.T ?_
      refine gos ?_
      refine And.intro (encT_two l) (And.intro (by omega) ⟨encT x, map_get hx, ?_⟩)
      (repeat (first | refine gof ?_ | refine fun (vv : Nat) => ?_))
      refine CallW.pure (hcall i x hx) (cl2 rfl hcap) rfl ?_
      cases hpi : p i with
      | true =>
        refine gos ?_
        exact ⟨f - 1, _, 0, by omega, fgts, i + 1, by omega, by omega, lt_step hp hpi, rfl, rfl⟩
      | false =>
        refine gos ?_
        refine RetW.plain (by simp) ?_
        rw [allB_f hlt hpi]
    · refine CmpW.N ?_
      refine gos ?_
      exact ⟨_, 0, fgts, allB_t fun j hj => hp j (by omega), rfl, rfl⟩
  rintro e h ⟨hA, rfl, rfl⟩
  rw [hA]
  refine AC.go tab ?_
  refine gos ?_
  refine RetW.plain (by simp) ?_
  rfl

theorem evC_does (l : List TCur) (p : Nat → Bool) (fid : FuncId) (cap : List AV) (hcap : closedL cap = true) (hl : l.length < 100000)
    (hcall : ∀ i x, l[i]? = some x → Does Tryz.prog G fid ([] ++ [.int .i64 (i : Nat), .agg (encCu x)] ++ cap) [] fun ae _ => ae = .ret (.bool (p i))) :
    Does Tryz.prog G 31 [.fsl (l.map encCu), .func (.func fid) [] cap] [] fun ae _ => ae = .ret (.bool (allB p l.length)) := by
  refine Does.bodyA tab Tryz.func31 rfl rfl ?_
  refine AC.step tab ?_
  refine gos ?_
  refine AC.cutF tab (fun e h => allB p l.length = true ∧ e = List.replicate 20 .any ∧ h = []) ?_ ?_
  · refine gos ?_
    rw [show (l.map encCu).length = l.length by simp]
    refine AC.loopC tab (fun f e h => ∃ i : Nat, f + i = l.length + 1 ∧ i ≤ l.length ∧ (∀ j, j < i → p j = true) ∧ e = [.any, .func (.func fid) [] cap, .any, .any, .any, .any, .any, .fsl (l.map encCu), .int .i64 l.length, .int .i64 i] ++ List.replicate 10 .any ∧ h = [])
      (l.length + 1) ⟨_, fgts, 0, by omega, by omega, fun j hj => by omega, rfl, rfl⟩ ?_
    rintro f e h ⟨i, hf, hi, hp, rfl, rfl⟩
    refine gos ?_
    by_cases hlt : i < l.length
    · obtain ⟨x, hx⟩ : ∃ x, l[i]? = some x := ⟨_, List.getElem?_eq_getElem hlt⟩
      refine CmpW.T ?_
      refine gos ?_
      refine And.intro (encCu_eight l) (And.intro (by omega) ⟨encCu x, map_get hx, ?_⟩)
      (repeat (first | refine gof ?_ | refine fun (vv : Nat) => ?_))
      refine CallW.pure (hcall i x hx) (cl2 rfl hcap) rfl ?_
      cases hpi : p i with
      | true =>
        refine gos ?_
        exact ⟨f - 1, _, 0, by omega, fgts, i + 1, by omega, by omega, lt_step hp hpi, rfl, rfl⟩
      | false =>
        refine gos ?_
        refine RetW.plain (by simp) ?_
        rw [allB_f hlt hpi]
    · refine CmpW.N ?_
      refine gos ?_
      exact ⟨_, 0, fgts, allB_t fun j hj => hp j (by omega), rfl, rfl⟩
  rintro e h ⟨hA, rfl, rfl⟩
  rw [hA]
  refine AC.go tab ?_
  refine gos ?_
  refine RetW.plain (by simp) ?_
  rfl

theorem evU_does (l : List TUnt) (p : Nat → Bool) (fid : FuncId) (cap : List AV) (hcap : closedL cap = true) (hl : l.length < 100000)
    (hcall : ∀ i x, l[i]? = some x → Does Tryz.prog G fid ([] ++ [.int .i64 (i : Nat), .agg (encU x)] ++ cap) [] fun ae _ => ae = .ret (.bool (p i))) :
    Does Tryz.prog G 35 [.fsl (l.map encU), .func (.func fid) [] cap] [] fun ae _ => ae = .ret (.bool (allB p l.length)) := by
  refine Does.bodyA tab Tryz.func35 rfl rfl ?_
  refine AC.step tab ?_
  refine gos ?_
  refine AC.cutF tab (fun e h => allB p l.length = true ∧ e = List.replicate 20 .any ∧ h = []) ?_ ?_
  · refine gos ?_
    rw [show (l.map encU).length = l.length by simp]
    refine AC.loopC tab (fun f e h => ∃ i : Nat, f + i = l.length + 1 ∧ i ≤ l.length ∧ (∀ j, j < i → p j = true) ∧ e = [.any, .func (.func fid) [] cap, .any, .any, .any, .any, .any, .fsl (l.map encU), .int .i64 l.length, .int .i64 i] ++ List.replicate 10 .any ∧ h = [])
      (l.length + 1) ⟨_, fgts, 0, by omega, by omega, fun j hj => by omega, rfl, rfl⟩ ?_
    rintro f e h ⟨i, hf, hi, hp, rfl, rfl⟩
    refine gos ?_
    by_cases hlt : i < l.length
    · obtain ⟨x, hx⟩ : ∃ x, l[i]? = some x := ⟨_, List.getElem?_eq_getElem hlt⟩
      refine CmpW.T ?_
      refine gos ?_
      refine And.intro (encU_two l) (And.intro (by omega) ⟨encU x, map_get hx, ?_⟩)
      (repeat (first | refine gof ?_ | refine fun (vv : Nat) => ?_))
      refine CallW.pure (hcall i x hx) (cl2 rfl hcap) rfl ?_
      cases hpi : p i with
      | true =>
        refine gos ?_
        exact ⟨f - 1, _, 0, by omega, fgts, i + 1, by omega, by omega, lt_step hp hpi, rfl, rfl⟩
      | false =>
        refine gos ?_
        refine RetW.plain (by simp) ?_
        rw [allB_f hlt hpi]
    · refine CmpW.N ?_
      refine gos ?_
      exact ⟨_, 0, fgts, allB_t fun j hj => hp j (by omega), rfl, rfl⟩
  rintro e h ⟨hA, rfl, rfl⟩
  rw [hA]
  refine AC.go tab ?_
  refine gos ?_
  refine RetW.plain (by simp) ?_
  rfl

theorem evR_does (l : List TRow) (p : Nat → Bool) (A : Nat → AObj) (fid : FuncId) (cs ds : List AV) (ver : Nat) (hl : l.length < 100000) (hA : ∀ i, closedLL (A i).es = true)
    (hcall : ∀ i x, l[i]? = some x → (∀ j, j < i → p j = true) → Does Tryz.prog G fid ([] ++ [.int .i64 (i : Nat), .agg (encR x)] ++ [.fptr cs, .ptr 0 ver 0 0, .fptr ds]) [some (A i)] fun ae O => ae = .ret (.bool (p i)) ∧ ∃ o, O = [some o] ∧ closedLL o.es = true ∧ (p i = true → o = A (i + 1))) :
    Does Tryz.prog G 64 [.fsl (l.map encR), .func (.func fid) [] [.fptr cs, .ptr 0 ver 0 0, .fptr ds]] [some (A 0)] fun ae O => ae = .ret (.bool (allB p l.length)) ∧ ∃ o, O = [some o] ∧ closedLL o.es = true := by
  refine Does.bodyA tab Tryz.func64 rfl rfl ?_
  refine AC.step tab ?_
  refine gos ?_
  refine AC.cutF tab (fun e h => allB p l.length = true ∧ e = List.replicate 20 .any ∧ h = [some (A l.length)]) ?_ ?_
  · refine gos ?_
    rw [show (l.map encR).length = l.length by simp]
    refine AC.loopC tab (fun f e h => ∃ i : Nat, f + i = l.length + 1 ∧ i ≤ l.length ∧ (∀ j, j < i → p j = true) ∧ e = [.any, .func (.func fid) [] [.fptr cs, .ptr 0 ver 0 0, .fptr ds], .any, .any, .any, .any, .any, .fsl (l.map encR), .int .i64 l.length, .int .i64 i] ++ List.replicate 10 .any ∧ h = [some (A i)])
      (l.length + 1) ⟨_, fgts, 0, by omega, by omega, fun j hj => by omega, rfl, rfl⟩ ?_
    rintro f e h ⟨i, hf, hi, hp, rfl, rfl⟩
    refine gos ?_
    by_cases hlt : i < l.length
    · obtain ⟨x, hx⟩ : ∃ x, l[i]? = some x := ⟨_, List.getElem?_eq_getElem hlt⟩
      refine CmpW.T ?_
      refine gos ?_
      refine And.intro (encR_two l) (And.intro (by omega) ⟨encR x, map_get hx, ?_⟩)
      (repeat (first | refine gof ?_ | refine fun (vv : Nat) => ?_))
      refine CallW.fst 1 (by simp) (hcall i x hx hp) rfl (by simp [insideO, insideLL_closed 1 _ (hA i)]) ?_
      rintro ae O ⟨rfl, o, rfl, ho, hoA⟩ _
      refine ⟨rfl, by simp [insideO, insideLL_closed 1 _ ho], ?_⟩
      cases hpi : p i with
      | true =>
        rw [hoA hpi]
        refine gos ?_
        exact ⟨f - 1, _, 1, by omega, fgts, i + 1, by omega, by omega, lt_step hp hpi, rfl, rfl⟩
      | false =>
        refine gos ?_
        refine RetW.plain (by simp) ?_
        exact ⟨by rw [allB_f hlt hpi], o, rfl, ho⟩
    · refine CmpW.N ?_
      refine gos ?_
      have : i = l.length := by omega
      subst this
      exact ⟨_, 1, fgts, allB_t hp, rfl, rfl⟩
  rintro e h ⟨hB, rfl, rfl⟩
  rw [hB]
  refine AC.go tab ?_
  refine gos ?_
  refine RetW.plain (by simp) ?_
  exact ⟨rfl, _, rfl, hA _⟩
theorem evS_does (l : List TTxt) (p : Nat → Bool) (A : Nat → AObj) (fid : FuncId) (vl vo : Nat) (L B : AObj) (hL : insideLL 3 L.es = true) (hB : insideLL 3 B.es = true) (hl : l.length < 100000) (hA : ∀ i, insideLL 3 (A i).es = true)
    (hcall : ∀ i x, l[i]? = some x → (∀ j, j < i → p j = true) → Does Tryz.prog G fid ([] ++ [.int .i64 (i : Nat), .agg (encT x)] ++ [.ptr 1 vl 0 0, .ptr 2 vo 0 0]) [some (A i), some L, some B] fun ae O => ae = .ret (.bool (p i)) ∧ O = [some (A (i + 1)), some L, some B]) :
    Does Tryz.prog G 69 [.fsl (l.map encT), .func (.func fid) [] [.ptr 1 vl 0 0, .ptr 2 vo 0 0]] [some (A 0), some L, some B] fun ae O => ae = .ret (.bool (allB p l.length)) ∧ ∃ k, k ≤ l.length ∧ O = [some (A k), some L, some B] ∧ (allB p l.length = true → k = l.length) := by
  refine Does.bodyA tab Tryz.func69 rfl rfl ?_
  refine AC.step tab ?_
  refine gos ?_
  refine AC.cutF tab (fun e h => allB p l.length = true ∧ e = List.replicate 20 .any ∧ h = [some (A l.length), some L, some B]) ?_ ?_
  · refine gos ?_
    rw [show (l.map encT).length = l.length by simp]
    refine AC.loopC tab (fun f e h => ∃ i : Nat, f + i = l.length + 1 ∧ i ≤ l.length ∧ (∀ j, j < i → p j = true) ∧ e = [.any, .func (.func fid) [] [.ptr 1 vl 0 0, .ptr 2 vo 0 0], .any, .any, .any, .any, .any, .fsl (l.map encT), .int .i64 l.length, .int .i64 i] ++ List.replicate 10 .any ∧ h = [some (A i), some L, some B])
      (l.length + 1) ⟨_, fgts, 0, by omega, by omega, fun j hj => by omega, rfl, rfl⟩ ?_
    rintro f e h ⟨i, hf, hi, hp, rfl, rfl⟩
    refine gos ?_
    by_cases hlt : i < l.length
    · obtain ⟨x, hx⟩ : ∃ x, l[i]? = some x := ⟨_, List.getElem?_eq_getElem hlt⟩
      refine CmpW.T ?_
      refine gos ?_
      refine And.intro (encT_two l) (And.intro (by omega) ⟨encT x, map_get hx, ?_⟩)
      (repeat (first | refine gof ?_ | refine fun (vv : Nat) => ?_))
      refine CallW.fst 3 (by simp) (hcall i x hx hp) rfl (by simp [insideO, hA, hL, hB]) ?_
      rintro ae O ⟨rfl, rfl⟩ _
      refine ⟨rfl, by simp [insideO, hA, hL, hB], ?_⟩
      cases hpi : p i with
      | true =>
        refine gos ?_
        exact ⟨f - 1, _, 3, by omega, fgts, i + 1, by omega, by omega, lt_step hp hpi, rfl, rfl⟩
      | false =>
        refine gos ?_
        refine RetW.plain (by simp) ?_
        exact ⟨by rw [allB_f hlt hpi], i + 1, by omega, rfl, fun h => by rw [allB_f hlt hpi] at h; cases h⟩
    · refine CmpW.N ?_
      refine gos ?_
      have : i = l.length := by omega
      subst this
      exact ⟨_, 3, fgts, allB_t hp, rfl, rfl⟩
  rintro e h ⟨hB, rfl, rfl⟩
  rw [hB]
  refine AC.go tab ?_
  refine gos ?_
  refine RetW.plain (by simp) ?_
  exact ⟨rfl, l.length, Nat.le_refl _, rfl, fun _ => rfl⟩
end Go.Proofs.YtpipbjfcbbdicaaGreatDoor

namespace Go.Proofs.YtpipbjfcbbdicaaGreatDoor
open Go Go.Abs

theorem u8_of {c d : UInt8} {n : Int} (h : (c.toNat : Int) = n) (hd : (d.toNat : Int) = n) : c = d := UInt8.toNat_inj.1 (by omega)
/-- How many bytes of a kind stand at a place. -/
def tw (s : List UInt8) (p : UInt8 → Bool) (a : Nat) : Nat := ((s.drop a).takeWhile p).length
theorem twl_in (p : UInt8 → Bool) : ∀ (l : List UInt8) (n : Nat), n < (l.takeWhile p).length → ∃ c, l[n]? = some c ∧ p c = true
  | [], n, h => by simp at h
  | c :: l, n, h => by
    by_cases hp : p c = true
    · cases n with
      | zero => exact ⟨c, rfl, hp⟩
      | succ n => simp [hp] at h; simpa using twl_in p l n h
    · simp [hp] at h
theorem twl_at (p : UInt8 → Bool) : ∀ (l : List UInt8) (c : UInt8), l[(l.takeWhile p).length]? = some c → p c = false
  | [], c, h => by simp at h
  | d :: l, c, h => by
    by_cases hp : p d = true
    · simp [hp] at h; exact twl_at p l c h
    · simp [hp] at h; subst h; simpa using hp
theorem tw_in {s : List UInt8} {p : UInt8 → Bool} {a n : Nat} (h : n < tw s p a) : ∃ c, s[a + n]? = some c ∧ p c = true := by
  obtain ⟨c, h1, h2⟩ := twl_in p _ n h
  rw [List.getElem?_drop] at h1
  exact ⟨c, h1, h2⟩
theorem tw_at {s : List UInt8} {p : UInt8 → Bool} {a : Nat} {c : UInt8} (h : s[a + tw s p a]? = some c) : p c = false := by
  refine twl_at p (s.drop a) c ?_
  rw [List.getElem?_drop]; exact h
theorem tw_le {s : List UInt8} (p : UInt8 → Bool) {a : Nat} (h : a ≤ s.length) : a + tw s p a ≤ s.length := by
  have := (List.takeWhile_prefix p (l := s.drop a)).length_le
  rw [List.length_drop] at this
  unfold tw; omega
theorem tw_go {s : List UInt8} {p : UInt8 → Bool} {a n : Nat} {c : UInt8} (h : n ≤ tw s p a) (hc : s[a + n]? = some c) (hp : p c = true) : n + 1 ≤ tw s p a := by
  by_cases e : n = tw s p a
  · subst e; rw [tw_at hc] at hp; cases hp
  · omega
theorem tw_stop {s : List UInt8} {p : UInt8 → Bool} {a n : Nat} (h : n ≤ tw s p a) (hc : ∀ c, s[a + n]? = some c → p c = false) : n = tw s p a := by
  by_cases e : n = tw s p a
  · exact e
  · obtain ⟨c, h1, h2⟩ := tw_in (s := s) (p := p) (a := a) (n := n) (by omega)
    rw [hc c h1] at h2; cases h2
theorem tw_text (s : List UInt8) (p : UInt8 → Bool) (a : Nat) : (s.take (a + tw s p a)).drop a = (s.drop a).takeWhile p := by
  rw [List.drop_take, Nat.add_sub_cancel_left]
  exact (List.prefix_iff_eq_take.1 (List.takeWhile_prefix p)).symm
/-- Behind blanks. -/
def bl (s : List UInt8) (a : Nat) : Nat := a + tw s (fun c => c == 32) a
theorem bl_le {s : List UInt8} {a : Nat} (h : a ≤ s.length) : a ≤ bl s a ∧ bl s a ≤ s.length := ⟨by unfold bl; omega, tw_le _ h⟩
theorem bl_bl (s : List UInt8) (a : Nat) : bl s (bl s a) = bl s a := by
  have : tw s (fun c => c == 32) (bl s a) = 0 := (tw_stop (Nat.zero_le _) fun c hc => tw_at (a := a) (p := fun c => c == 32) (by rw [Nat.add_zero] at hc; exact hc)).symm
  unfold bl at *; omega
end Go.Proofs.YtpipbjfcbbdicaaGreatDoor
