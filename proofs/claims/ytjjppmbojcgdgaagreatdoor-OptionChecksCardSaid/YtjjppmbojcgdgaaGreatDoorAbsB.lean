/- A clean state beside the machine's, and what each operation does to it: a part of the means by which this claim is proved. -/
import Derived.Test.YtjjppmbojcgdgaaGreatDoorAbsA
import Derived.Orders
import Derived.Deep.LoopGhost
import Derived.Below
import Derived.MapKept
import Derived.Recover
set_option linter.unusedVariables false
set_option linter.unusedSimpArgs false
/- Operations, regions in whatever order, code: one predicate that computes, and that it is enough for the machine. -/
namespace Go.Abs
open Go
inductive AX where
  | normal
  | exit (id : Nat)
  | goto (l : Nat)
  | ret
  | panic (v : AV)
abbrev AQ := AX → Env → AHeap → Prop
def APost (G : Globs) (C : Ctx) (ds : List Deferred) (Q : AQ) : Exit → Act → World → Prop := fun x a w =>
  ∃ C', C'.w = w ∧ Good G C' ∧ Ext C C' ∧ a.defers = ds ∧ match x with
    | .normal => ∃ e, RepL C' e a.tmps.toList ∧ Q .normal e C'.s
    | .exit id => ∃ e, RepL C' e a.tmps.toList ∧ Q (.exit id) e C'.s
    | .goto l => ∃ e, RepL C' e a.tmps.toList ∧ Q (.goto l) e C'.s
    | .ret => ∃ e, RepL C' e a.tmps.toList ∧ Q .ret e C'.s
    | .panic ch => ∃ v av, ch = [{ v, recovered := false }] ∧ RepV C' av v ∧ Q (.panic av) [] C'.s
    | .outgrown => False
theorem APost.put {G : Globs} {C : Ctx} {ds : List Deferred} {Q : AQ} {c : List PanicEntry} {a : Act} {d : Option Tmp} {v : Value} {w : World} (h : APost G C ds Q (.panic c) (a.put d v) w) : APost G C ds Q (.panic c) a w := by
  obtain ⟨C', h1, h2, h3, h4, h5⟩ := h
  exact ⟨C', h1, h2, h3, by rw [← h4]; cases d <;> rfl, h5⟩
section
variable (P : Program) (G : Globs) (T : TT)
def clsConv (a b : Option TI) : Nat :=
  match a, b with
  | some a, some b => match a.d, b.d with
    | .slice _, _ => 2
    | _, .slice _ => 2
    | .uptr, _ => 2
    | _, .uptr => 2
    | _, _ => 0
  | _, _ => 2
def cls (T : TT) : Op → Nat
  | .move _ | .assign _ | .pick .. | .nilCheck _ | .binOp .. | .unOp .. | .makeInterface .. | .makeFunc .. | .slice .. | .fieldAddr .. | .field .. | .indexAddr .. | .index .. | .extract .. | .build .. => 0
  | .convert src dst _ => clsConv (T.lookup src) (T.lookup dst)
  | .call { callee := .builtin .len, .. } | .call { callee := .builtin .min, .. } | .call { callee := .builtin .max, .. } => 0
  | .load .. => 1
  | _ => 2
def optK (G : Globs) (e : Env) (x : Option Operand) (k : Option AV → Prop) : Prop :=
  match x with
  | none => k none
  | some x => evK G e x fun a => k (some a)
def minmaxW (isMax : Bool) : List AV → (AV → Prop) → Prop
  | [.int k a, .int _ b], K => ∃ r, (match isMax with | true => (if b > a then b else a) | false => (if b < a then b else a)) = r ∧ K (.int k r)
  | _, _ => False
def pureW (op : Op) (e : Env) (s : AHeap) (K : AV → Prop) : Prop :=
  match op with
  | .move x | .assign x => evK G e x K
  | .pick c a b => evK G e c fun c => match c with | .bool t => (t = true → evK G e a K) ∧ (t = false → evK G e b K) | _ => False
  | .nilCheck x => evK G e x fun a => match a with
    | .ptr i ver k off => objK s i fun o => o.ver = ver ∧ K (.ptr i ver k off)
    | .fptr cs => K (.fptr cs)
    | .func (.func f) a b => K (.func (.func f) a b)
    | _ => False
  | .binOp op t x y _ => evK G e x fun a => evK G e y fun b => binSW T op t (isK x || isK y) s a b K
  | .unOp op _ x => evK G e x fun a => unW op a K
  | .convert src dst x => evK G e x fun a => convW T src dst a K
  | .makeInterface t x => evK G e x fun a => mkIfaceW T t a K
  | .makeFunc fn first captured => evLK G e first.toList fun f => evLK G e captured.toList fun c => K (.func fn f c)
  | .slice t x lo hi none => evK G e x fun a => optK G e lo fun lo => optK G e hi fun hi => sliceW T t a lo hi K
  | .fieldAddr st x f => evK G e x fun a => fieldW T st f s a K
  | .field st x f => evK G e x fun a => match a with
    | .agg cs => tyK T st fun ti => match ti.d with
      | .struct fs => match fs[f]? with
        | some (off, ty) => dropK cs off fun cs => cellsK T ty cs K
        | none => False
      | _ => False
    | _ => False
  | .indexAddr t x i => evK G e x fun a => evK G e i fun i => idxAddrW T t s a i K
  | .index t x i => evK G e x fun a => evK G e i fun i => indexW T t a i K
  | .extract x n => evK G e x fun a => extractW a n K
  | .build t parts => evPK G e parts.toList fun ps => buildW T t ps K
  | .call { callee := .builtin .len, args, argTypes } => match args.toList, argTypes.toList with
    | [x], [t] => evK G e x fun a => lenW T t s a K
    | _, _ => False
  | .call { callee := .builtin .min, args, .. } => evLK G e args.toList fun as => minmaxW false as K
  | .call { callee := .builtin .max, args, .. } => evLK G e args.toList fun as => minmaxW true as K
  | _ => False
variable {P G T} {C : Ctx}
theorem field_part {t : TypeId} {cs : List AV} {us : Array Value} {off : Nat} {K : AV → Prop} (hT : TOk P T) (hl : RepL C cs us.toList) (hle : off ≤ cs.length) (h : cellsK T t (cs.drop off) K) :
    ∃ av r, (∀ w, (part t us off).run P w = .ok r w) ∧ RepV C av r ∧ K av := by
  obtain ⟨tf, htf, h⟩ := tyK_ok hT h
  have hd2 := RepL.drop hl off
  split at h
  · rename_i hag
    obtain ⟨hle2, h⟩ := takeK_ok h
    refine ⟨_, .agg (us.extract off (off + tf.size)), fun w => ?_, ?_, h⟩
    · simp [part, run_isAgg' (P := P) w htf, hag, run_sizeOf' (P := P) w htf]
    · simp only [RepV]
      refine ⟨_, rfl, ?_⟩
      have := RepL.take hd2 tf.size
      have e2 : (us.extract off (off + tf.size)).toList = (us.toList.drop off).take tf.size := by
        rw [Array.toList_extract, List.extract_eq_take_drop]; congr 1; omega
      rw [e2]; exact this
  · rename_i hag
    cases hcs : cs.drop off with
    | nil => rw [hcs] at h; exact h.elim
    | cons c r =>
      rw [hcs] at h hd2
      simp only [RepL] at hd2
      obtain ⟨x, r', he, h1, _⟩ := hd2
      refine ⟨c, x, fun w => ?_, h1, h⟩
      have hx : us[off]? = some x := by
        have := congrArg (·[0]?) he
        simpa using this
      simp [part, run_isAgg' (P := P) w htf, hag, hx]
theorem optK_ok {e : Env} {a : Act} {x : Option Operand} {k : Option AV → Prop} (hg : Good G C) (hr : RepL C e a.tmps.toList) (h : optK G e x k) : ∃ av, RepO C av (x.map a.eval) ∧ k av := by
  cases x with
  | none => exact ⟨none, trivial, h⟩
  | some x => obtain ⟨av, h1, h2⟩ := evK_ok hg hr h; exact ⟨some av, h1, h2⟩
theorem evLK_arr {e : Env} {a : Act} (hg : Good G C) (hr : RepL C e a.tmps.toList) {xs : Array Operand} {k : List AV → Prop} (h : evLK G e xs.toList k) : ∃ as, RepL C as (xs.map a.eval).toList ∧ k as := by
  obtain ⟨as, h1, h2⟩ := evLK_ok hg hr h
  exact ⟨as, by simpa using h1, h2⟩
theorem minmaxW_ok {b : Bool} {as : List AV} {us : Array Value} {K : AV → Prop} {ts : Array TypeId} {t : TypeId} (hr : RepL C as us.toList) (h : minmaxW b as K) :
    ∃ av r, (∀ w, (match b with | true => Builtin.max_ ts t us | false => Builtin.min_ ts t us : Sem Value).run P w = .ok r w) ∧ RepV C av r ∧ K av := by
  unfold minmaxW at h
  split at h
  · rename_i k a k' b'
    simp only [RepL, RepV, RepF] at hr
    obtain ⟨u, r, hu, rfl, v, r', hr', rfl, rfl⟩ := hr
    obtain ⟨x, rfl, h⟩ := h
    subst hr'
    have hus : us.toList = [.int k a, .int k' b'] := hu
    cases b
    · refine ⟨_, .int k (if b' < a then b' else a), fun w => ?_, by simp only [RepV, RepF], h⟩
      simp [Builtin.min_, hus, Builtin.min2]
    · refine ⟨_, .int k (if b' > a then b' else a), fun w => ?_, by simp only [RepV, RepF], h⟩
      simp [Builtin.max_, hus, Builtin.max2]
  · exact h.elim
theorem pureW_ok {o : Oper} {e : Env} {a : Act} {K : AV → Prop} (hT : TOk P T) (hg : Good G C) (hr : RepL C e a.tmps.toList) (h : pureW G T o.op e C.s K) :
    ∃ av r, (∀ w, (execOp a.eval o).run P w = .ok (.value r) w) ∧ RepV C av r ∧ K av := by
  have lift : ∀ {x : Sem Value}, (execOp a.eval o = do pure (.value (← x))) → (∃ av r, (∀ w, x.run P w = .ok r w) ∧ RepV C av r ∧ K av) → ∃ av r, (∀ w, (execOp a.eval o).run P w = .ok (.value r) w) ∧ RepV C av r ∧ K av := by
    rintro x hx ⟨av, r, h1, h2, h3⟩
    exact ⟨av, r, fun w => by rw [hx, Sem.run_bind, h1]; rfl, h2, h3⟩
  obtain ⟨dst, op, ty, pos, after, guard⟩ := o
  dsimp only at h
  unfold pureW at h
  split at h
  · rename_i x
    obtain ⟨av, h1, h2⟩ := evK_ok hg hr h
    exact ⟨av, _, fun w => rfl, h1, h2⟩
  · rename_i x
    obtain ⟨av, h1, h2⟩ := evK_ok hg hr h
    exact ⟨av, _, fun w => rfl, h1, h2⟩
  · rename_i c x y
    obtain ⟨cv, h1, h2⟩ := evK_ok hg hr h
    split at h2
    · rename_i t
      simp only [RepV, RepF] at h1
      cases t
      · obtain ⟨av, h3, h4⟩ := evK_ok hg hr (h2.2 rfl)
        exact ⟨av, a.eval y, fun w => by simp [execOp, h1, asBool], h3, h4⟩
      · obtain ⟨av, h3, h4⟩ := evK_ok hg hr (h2.1 rfl)
        exact ⟨av, a.eval x, fun w => by simp [execOp, h1, asBool], h3, h4⟩
    · exact h2.elim
  · rename_i x
    obtain ⟨av, h1, h2⟩ := evK_ok hg hr h
    split at h2
    · obtain ⟨o, ho, hver, h2⟩ := objK_ok h2
      obtain ⟨_, g, hgb, hv⟩ := ptr_live ho hver h1
      exact ⟨_, a.eval x, fun w => by simp [execOp, hv], h1, h2⟩
    · have h1' := h1
      simp only [RepV, RepF] at h1'
      obtain ⟨b, off, us, hv, _⟩ := h1'
      exact ⟨_, a.eval x, fun w => by simp [execOp, hv], h1, h2⟩
    · have h1' := h1
      simp only [RepV] at h1'
      obtain ⟨f, c, hv, _⟩ := h1'
      exact ⟨_, a.eval x, fun w => by simp [execOp, hv], h1, h2⟩
    · exact h2.elim
  · rename_i op t x y yt
    obtain ⟨av, h1, h⟩ := evK_ok hg hr h
    obtain ⟨bv, h2, h⟩ := evK_ok hg hr h
    exact lift rfl (binSW_ok hT hg h1 h2 h)
  · obtain ⟨av, h1, h⟩ := evK_ok hg hr h
    exact lift rfl (unW_ok h1 h)
  · obtain ⟨av, h1, h⟩ := evK_ok hg hr h
    exact lift rfl (convW_ok hT h1 h)
  · obtain ⟨av, h1, h⟩ := evK_ok hg hr h
    exact lift rfl (mkIfaceW_ok hT h1 h)
  · rename_i fn first captured
    obtain ⟨f, h1, h⟩ := evLK_arr hg hr h
    obtain ⟨c, h2, h⟩ := evLK_arr hg hr h
    exact ⟨_, .func fn (first.map a.eval) (captured.map a.eval), fun w => rfl, by simp only [RepV]; exact ⟨_, _, rfl, h1, h2⟩, h⟩
  · obtain ⟨av, h1, h⟩ := evK_ok hg hr h
    obtain ⟨lo, h2, h⟩ := optK_ok hg hr h
    obtain ⟨hi, h3, h⟩ := optK_ok hg hr h
    exact lift rfl (sliceW_ok hT h1 h2 h3 h)
  · obtain ⟨av, h1, h⟩ := evK_ok hg hr h
    exact lift rfl (fieldW_ok hT hg h1 h)
  · rename_i st x f
    obtain ⟨av, h1, h⟩ := evK_ok hg hr h
    split at h
    · rename_i cs
      simp only [RepV] at h1
      obtain ⟨us, hv, hl⟩ := h1
      obtain ⟨ti, hti, h⟩ := tyK_ok hT h
      split at h
      · rename_i fs hd
        obtain ⟨gs, hu, hgs⟩ := und_struct hti hd
        split at h
        · rename_i off tyf hf
          have hgf : ∃ fl, gs[f]? = some fl ∧ fl.offset = off ∧ fl.type = tyf := by
            rw [← hgs, List.getElem?_map] at hf
            cases hq : gs.toList[f]? with
            | none => rw [hq] at hf; cases hf
            | some fl =>
              rw [hq] at hf
              simp only [Option.map_some, Option.some.injEq, Prod.mk.injEq] at hf
              exact ⟨fl, by simpa using hq, hf.1, hf.2⟩
          obtain ⟨fl, hfl, rfl, rfl⟩ := hgf
          obtain ⟨hle, h⟩ := dropK_ok h
          obtain ⟨av, r, h2, h3, h4⟩ := field_part (P := P) hT hl hle h
          refine lift rfl ⟨av, r, fun w => ?_, h3, h4⟩
          rw [hv]
          simp [Instr.field, run_underlying hu, hfl, asAgg, h2]
        · exact h.elim
      · exact h.elim
    · exact h.elim
  · obtain ⟨av, h1, h⟩ := evK_ok hg hr h
    obtain ⟨iv, h2, h⟩ := evK_ok hg hr h
    exact lift rfl (idxAddrW_ok hT hg h1 h2 h)
  · obtain ⟨av, h1, h⟩ := evK_ok hg hr h
    obtain ⟨iv, h2, h⟩ := evK_ok hg hr h
    exact lift rfl (indexW_ok hT h1 h2 h)
  · obtain ⟨av, h1, h⟩ := evK_ok hg hr h
    exact lift rfl (extractW_ok h1 h)
  · rename_i t parts
    obtain ⟨ps, h1, h⟩ := evPK_ok hg hr h
    exact lift rfl (buildW_ok hT (by simpa using h1) h)
  · rename_i args argTypes
    split at h
    · rename_i x t hx ht
      obtain ⟨av, h1, h⟩ := evK_ok hg hr h
      have hx : args = #[x] := by rw [← Array.toArray_toList (xs := args), hx]
      have ht : argTypes = #[t] := by rw [← Array.toArray_toList (xs := argTypes), ht]
      subst hx; subst ht
      exact lift (x := Builtin.len_ #[t] ty #[a.eval x]) (by simp [execOp, resolve, invoke, builtin]) (lenW_ok (ty := ty) hT hg h1 h)
    · exact h.elim
  · rename_i args argTypes
    obtain ⟨as, h1, h⟩ := evLK_arr hg hr h
    exact lift rfl (minmaxW_ok (P := P) (b := false) (ts := argTypes) (t := ty) h1 h)
  · rename_i args argTypes
    obtain ⟨as, h1, h⟩ := evLK_arr hg hr h
    exact lift rfl (minmaxW_ok (P := P) (b := true) (ts := argTypes) (t := ty) h1 h)
  · exact h.elim
end
end Go.Abs
/- Maps whose keys are texts: made, written, asked. -/
namespace Go.Abs
open Go
section
variable {P : Program} {G : Globs} {T : TT} {C : Ctx}
def zeroK (ti : TI) (K : AV → Prop) : Prop := match ti.agg with
  | true => ofVsK ti.zero fun cs => K (.agg cs)
  | false => match ti.zero with
    | [v] => ofVK v K
    | _ => False
theorem zeroK_ok {t : TypeId} {ti : TI} {K : AV → Prop} (hti : TFits P t ti) (h : zeroK ti K) : ∃ a z, (∀ w, (zeroValue t).run P w = .ok z w) ∧ RepV C a z ∧ K a := by
  unfold zeroK at h
  split at h
  · rename_i hag
    obtain ⟨i, us, hi, hz, hl⟩ := hti.aggz hag
    obtain ⟨cs, hcs, h⟩ := ofVsK_ok (C := C) h
    refine ⟨.agg cs, .agg us, fun w => by simp [zeroValue, typeInfo, hi, hz], ?_, h⟩
    simp only [RepV]
    exact ⟨us, rfl, by rw [hl]; exact RepFL.repL _ _ hcs⟩
  · rename_i hag
    obtain ⟨i, v, hi, hz, hl⟩ := hti.plain hag
    rw [hl] at h
    obtain ⟨a, ha, h⟩ := ofVK_ok (C := C) h
    exact ⟨a, v, fun w => by simp [zeroValue, typeInfo, hi, hz], RepF.repV _ _ ha, h⟩
def lookM : List (List AV) → List UInt8 → Option AV
  | [], _ => none
  | [.str k, v] :: es, x => if k = x then some v else lookM es x
  | _ :: es, x => lookM es x
def putM : List (List AV) → List UInt8 → AV → List (List AV)
  | [], x, c => [[.str x, c]]
  | [.str k, v] :: es, x, c => if k = x then [.str x, c] :: es else [.str k, v] :: putM es x c
  | e :: es, x, c => e :: putM es x c
def keysOK : List (List AV) → Bool
  | [] => true
  | [.str _, _] :: es => keysOK es
  | _ :: _ => false
def cellsM (l : List MapEntry) : List Value := l.flatMap fun e => [e.key, e.val]
theorem mapCells_eq (es : Array MapEntry) : mapCells es = cellsM es.toList := rfl
theorem same_str (a b : List UInt8) : Instr.sameNow .string (.string ⟨⟨a⟩⟩) (.string ⟨⟨b⟩⟩) = some (decide (a = b)) := by
  simp only [Instr.sameNow, Option.some.injEq]
  by_cases h : a = b
  · subst h
    rw [decide_eq_true rfl, MapKept.bytes_beq]
  · rw [decide_eq_false h, Bool.eq_false_iff]
    intro e
    rw [MapKept.bytes_beq] at e
    injection e with e
    injection e with e
    exact h e
theorem rep_keys {C : Ctx} : ∀ {es : List (List AV)} {l : List MapEntry}, RepLL C es (cellsM l) → keysOK es = true → ∀ e ∈ l, MapKept.IsKey .string e.key
  | [], l, h, _, e, he => by
    cases l with
    | nil => cases he
    | cons a l => simp [RepLL, cellsM] at h
  | [.str k, v] :: es, l, h, hk, e, he => by
    cases l with
    | nil => cases he
    | cons a l =>
      simp only [RepLL, RepL, cellsM, List.flatMap_cons] at h
      obtain ⟨p, r, hp, ⟨u, q, rfl, hu, u', q', rfl, hv, rfl⟩, h2⟩ := h
      simp only [List.cons_append, List.nil_append, List.cons.injEq] at hp
      obtain ⟨h1, h3, h4⟩ := hp
      simp only [RepV, RepF] at hu
      rcases List.mem_cons.1 he with rfl | he
      · rw [h1, hu]; trivial
      · exact rep_keys (es := es) (l := l) (by rw [show cellsM l = r from h4]; exact h2) (by simpa [keysOK] using hk) e he
theorem find_rep {C : Ctx} (x : List UInt8) : ∀ {es : List (List AV)} {l : List MapEntry} (i : Nat), RepLL C es (cellsM l) → keysOK es = true →
    (Instr.findNow .string (.string ⟨⟨x⟩⟩) l i = some none ∧ lookM es x = none ∧ ∀ c, putM es x c = es ++ [[.str x, c]]) ∨
    ∃ j e a, Instr.findNow .string (.string ⟨⟨x⟩⟩) l i = some (some (i + j, e.val)) ∧ l[j]? = some e ∧ e.key = .string ⟨⟨x⟩⟩ ∧ lookM es x = some a ∧ RepV C a e.val ∧
      ∀ c u, RepV C c u → RepLL C (putM es x c) (cellsM (l.modify j fun e => { e with key := .string ⟨⟨x⟩⟩, val := u }))
  | [], l, i, h, _ => by
    cases l with
    | nil => exact .inl ⟨rfl, rfl, fun c => rfl⟩
    | cons a l => simp [RepLL, cellsM] at h
  | [.str k, v] :: es, l, i, h, hk => by
    cases l with
    | nil =>
      simp only [RepLL, cellsM, RepL, List.flatMap_nil] at h
      obtain ⟨p, r, hp, ⟨u, q, rfl, _⟩, _⟩ := h
      cases hp
    | cons a l =>
      simp only [RepLL, RepL, cellsM, List.flatMap_cons] at h
      obtain ⟨p, r, hp, ⟨u, q, rfl, hu, u', q', rfl, hv, rfl⟩, h2⟩ := h
      simp only [List.cons_append, List.nil_append, List.cons.injEq] at hp
      obtain ⟨h1, h3, h4⟩ := hp
      have h4 : cellsM l = r := h4
      simp only [RepV, RepF] at hu
      subst h1 h3 h4
      by_cases hx : k = x
      · subst hx
        refine .inr ⟨0, a, v, by simp [Instr.findNow, hu, same_str], rfl, hu, by simp [lookM], hv, fun c w hw => ?_⟩
        simp only [putM, if_true, List.modify_zero_cons, cellsM, List.flatMap_cons, RepLL]
        exact ⟨[.string ⟨⟨k⟩⟩, w], _, rfl, by simp only [RepL, RepV, RepF]; exact ⟨_, _, rfl, rfl, _, _, rfl, hw, rfl⟩, h2⟩
      · have hf : Instr.findNow .string (.string ⟨⟨x⟩⟩) (a :: l) i = Instr.findNow .string (.string ⟨⟨x⟩⟩) l (i + 1) := by
          simp [Instr.findNow, hu, same_str, Ne.symm hx]
        rcases find_rep x (i + 1) h2 (by simpa [keysOK] using hk) with ⟨g1, g2, g3⟩ | ⟨j, e, b, g1, g2, g3, g4, g5, g6⟩
        · exact .inl ⟨by rw [hf, g1], by simp [lookM, hx, g2], fun c => by simp [putM, hx, g3]⟩
        · refine .inr ⟨j + 1, e, b, by rw [hf, g1]; simp; omega, by simpa using g2, g3, by simp [lookM, hx, g4], g5, fun c w hw => ?_⟩
          simp only [putM, hx, if_false, List.modify_succ_cons, cellsM, List.flatMap_cons, RepLL]
          exact ⟨[a.key, a.val], _, rfl, by simp only [RepL, RepV, RepF]; exact ⟨_, _, rfl, hu, _, _, rfl, hv, rfl⟩, g6 c w hw⟩
theorem keysOK_len : ∀ {es : List (List AV)}, keysOK es = true → ∀ e ∈ es, e.length = 2
  | [], _, e, he => by cases he
  | [.str k, v] :: es, hk, e, he => by
    rcases List.mem_cons.1 he with rfl | he
    · rfl
    · exact keysOK_len (by simpa [keysOK] using hk) e he
theorem putM_len (x : List UInt8) (c : AV) : ∀ {es : List (List AV)}, keysOK es = true → ∀ e ∈ putM es x c, e.length = 2
  | [], _, e, he => by simp [putM] at he; subst he; rfl
  | [.str k, v] :: es, hk, e, he => by
    have hk : keysOK es = true := by simpa [keysOK] using hk
    have ih := keysOK_len hk
    unfold putM at he
    split at he
    · rcases List.mem_cons.1 he with rfl | he
      · rfl
      · exact ih e he
    · rcases List.mem_cons.1 he with rfl | he
      · rfl
      · exact putM_len x c hk e he
theorem keysOK_putM (x : List UInt8) (c : AV) : ∀ {es : List (List AV)}, keysOK es = true → keysOK (putM es x c) = true
  | [], _ => rfl
  | [.str k, v] :: es, hk => by
    have hk : keysOK es = true := by simpa [keysOK] using hk
    unfold putM
    split
    · simpa [keysOK] using hk
    · simpa [keysOK] using keysOK_putM x c hk
def elemsM (s : AHeap) (a : AV) (k : List (List AV) → Prop) : Prop :=
  match a with
  | .fmap es => k es
  | .mp i ver => objK s i fun o => o.ver = ver ∧ o.sz = 0 ∧ k o.es
  | _ => False
theorem elemsM_ok {a : AV} {v : Value} {k : List (List AV) → Prop} (hg : Good G C) (hr : RepV C a v) (h : elemsM C.s a k) :
    ∃ es l, RepLL C es (cellsM l) ∧ k es ∧ ((v = .map none ∧ l = []) ∨ ∃ b ms clock, v = .map (some b) ∧ C.w.heap[b]? = some (.map ms clock) ∧ ms.toList = l) := by
  unfold elemsM at h
  split at h
  · rename_i es
    simp only [RepV, RepF] at hr
    rcases hr with ⟨rfl, rfl⟩ | ⟨b, ms, clock, rfl, _, hb, hl⟩
    · exact ⟨[], [], by simp [RepLL, cellsM], h, .inl ⟨rfl, rfl⟩⟩
    · exact ⟨es, ms.toList, RepFLL.repLL hl, h, .inr ⟨b, ms, clock, rfl, hb, rfl⟩⟩
  · rename_i i ver
    obtain ⟨o, ho, hver, hz, h⟩ := objK_ok h
    simp only [RepV] at hr
    obtain ⟨_, g, hgb, rfl⟩ := hr.2.2 o ho hver
    obtain ⟨_, _, hes, xs, hown, hrep, _⟩ := hg.obj i o ho
    rw [hz] at hown
    obtain ⟨b, ms, clock, h1, hb, rfl⟩ := hown
    have hbg : b = g := by rw [h1] at hgb; simpa [Value.ownBlock] using hgb
    subst hbg
    exact ⟨o.es, ms.toList, hrep, h, .inr ⟨b, ms, clock, rfl, hb, rfl⟩⟩
  · exact h.elim
theorem und_map {t kt et : TypeId} {ti : TI} (h : TFits P t ti) (hd : ti.d = .map kt et) : P.underlying t = some (.map kt et) := by
  obtain ⟨d, hd', hk⟩ := h.und
  rw [hd] at hk
  cases d <;> simp [TD.of] at hk
  obtain ⟨rfl, rfl⟩ := hk; exact hd'
def lookupW (T : TT) (t : TypeId) (ok : Bool) (s : AHeap) (m x : AV) (K : AV → Prop) : Prop :=
  tyK T t fun ti => match ti.d with
    | .map kt et => tyK T kt fun tk => match tk.d, x with
      | .str, .str x => elemsM s m fun es => keysOK es = true ∧ ∃ r, lookM es x = r ∧ match r with
        | some v => (match ok with | true => K (.tuple [v, .bool true]) | false => K v)
        | none => tyK T et fun te => zeroK te fun z => (match ok with | true => K (.tuple [z, .bool false]) | false => K z)
      | _, _ => False
    | _ => False
theorem lookupW_ok {t : TypeId} {ok : Bool} {m x : AV} {v u : Value} {K : AV → Prop} (hT : TOk P T) (hg : Good G C) (hm : RepV C m v) (hx : RepV C x u) (h : lookupW T t ok C.s m x K) :
    ∃ av r, (Instr.lookup t v u ok).run P C.w = .ok r C.w ∧ RepV C av r ∧ K av := by
  obtain ⟨ti, hti, h1⟩ := tyK_ok hT h
  clear h
  split at h1
  · rename_i kt et hd
    obtain ⟨tk, htk, h2⟩ := tyK_ok hT h1
    clear h1
    split at h2
    · rename_i x hk
      simp only [RepV, RepF] at hx
      subst hx
      have hut := und_map hti hd
      have huk := und_str htk hk
      obtain ⟨es, l, hrep, ⟨hko, r, hr, h⟩, hsrc⟩ := elemsM_ok hg hm h2
      have hkey : MapKept.IsKey .string (.string ⟨⟨x⟩⟩) := trivial
      rcases find_rep x 0 hrep hko with ⟨g1, g2, _⟩ | ⟨j, e, a, g1, g2, g3, g4, g5, _⟩
      · rw [g2] at hr
        subst hr
        simp only at h
        obtain ⟨te, hte, h⟩ := tyK_ok hT h
        obtain ⟨za, z, hz, hza, h⟩ := zeroK_ok (P := P) (C := C) hte h
        have hrun : (Instr.lookup t v (.string ⟨⟨x⟩⟩) ok).run P C.w = .ok (if ok then .tuple #[z, .bool false] else z) C.w := by
          rcases hsrc with ⟨rfl, rfl⟩ | ⟨b, ms, clock, rfl, hb, rfl⟩
          · simp [Instr.lookup, run_underlying hut, MapKept.run_checkKey huk hkey, MapKept.run_findKey huk g1, hz, Result.andThen]
          · simp [Instr.lookup, run_underlying hut, MapKept.run_getObj_map hb, MapKept.run_checkKey huk hkey, MapKept.run_findKey huk g1, hz, Result.andThen]
        cases ok
        · exact ⟨za, z, hrun, hza, h⟩
        · exact ⟨.tuple [za, .bool false], _, hrun, by simp only [RepV, if_true]; exact ⟨_, rfl, by simp only [RepL]; exact ⟨_, _, rfl, hza, _, _, rfl, by simp [RepV, RepF], rfl⟩⟩, h⟩
      · rw [g4] at hr
        subst hr
        simp only at h
        have hrun : (Instr.lookup t v (.string ⟨⟨x⟩⟩) ok).run P C.w = .ok (if ok then .tuple #[e.val, .bool true] else e.val) C.w := by
          rcases hsrc with ⟨rfl, rfl⟩ | ⟨b, ms, clock, rfl, hb, rfl⟩
          · simp at g2
          · simp [Instr.lookup, run_underlying hut, MapKept.run_getObj_map hb, MapKept.run_checkKey huk hkey, MapKept.run_findKey huk g1, Result.andThen]
        cases ok
        · exact ⟨a, e.val, hrun, g5, h⟩
        · exact ⟨.tuple [a, .bool true], _, hrun, by simp only [RepV, if_true]; exact ⟨_, rfl, by simp only [RepL]; exact ⟨_, _, rfl, g5, _, _, rfl, by simp [RepV, RepF], rfl⟩⟩, h⟩
    · exact h2.elim
  · exact h1.elim
def makeMapW (t : TypeId) (s : AHeap) (K : AV → AHeap → Prop) : Prop := ∀ ver, snocK s ⟨ver, t, 0, []⟩ fun n s' => K (.mp n ver) s'
theorem makeMapW_ok {t : TypeId} {K : AV → AHeap → Prop} (hg : Good G C) (h : makeMapW t C.s K) : YieldsA P G C (Instr.makeMap t none) K := by
  have h := h C.N
  rw [snocK_eq] at h
  have hgrow : C.w.grownBy (C.w.alloc (.map #[] 0)) none := World.grownBy_alloc C.w _ none
  have hfresh : ∀ g, (Value.slice (some ⟨C.w.heap.size, 0, none⟩) 0 0).ownBlock = some g → C.w.heap.size ≤ g := fun g hg => by simp [Value.ownBlock] at hg; omega
  refine ⟨C.push (C.w.alloc (.map #[] 0)) ⟨C.N, t, 0, []⟩ (.slice (some ⟨C.w.heap.size, 0, none⟩) 0 0), _, .map (some C.w.heap.size), ?_, ?_, ext_push hg hgrow rfl hfresh, ?_, h⟩
  · simp [Instr.makeMap, Result.andThen, Ctx.push]
  · exact good_push' (xs := []) hg hgrow rfl hfresh (by simp) ⟨C.w.heap.size, #[], 0, rfl, heap_alloc_new C.w _, by rfl⟩ (by simp [RepLL]) (by simp)
  · simp only [RepV]
    refine ⟨⟨_, rfl⟩, by simp [Ctx.push], fun o ho _ => ?_⟩
    rcases push_live ho with ⟨hlt, _⟩ | ⟨_, rfl⟩
    · omega
    · exact ⟨rfl, C.w.heap.size, by simp [Ctx.push, Value.ownBlock], rfl⟩
def makeMapRW (T : TT) (t : TypeId) (a : AV) (s : AHeap) (K : AV → AHeap → Prop) : Prop := tyK T t fun ti => match ti.d, a with
  | .map _ _, .int _ _ => makeMapW t s K
  | _, _ => False
theorem makeMapRW_ok {t : TypeId} {a : AV} {v : Value} {K : AV → AHeap → Prop} (hT : TOk P T) (hg : Good G C) (ha : RepV C a v) (h : makeMapRW T t a C.s K) : YieldsA P G C (Instr.makeMap t (some v)) K := by
  obtain ⟨ti, hti, h1⟩ := tyK_ok hT h
  clear h
  split at h1
  · rename_i hd
    simp only [RepV, RepF] at ha
    subst ha
    obtain ⟨C', av, r, h2, h3⟩ := makeMapW_ok (P := P) hg h1
    refine ⟨C', av, r, ?_, h3⟩
    rw [← h2]
    simp [Instr.makeMap, run_underlying (und_map hti hd), asInt, asIntOf, Result.andThen]
  · exact h1.elim
def mapSetW (T : TT) (t : TypeId) (s : AHeap) (m x y : AV) (K : AHeap → Prop) : Prop :=
  tyK T t fun ti => match ti.d with
    | .map kt _ => tyK T kt fun tk => match tk.d, m, x with
      | .str, .mp i ver, .str x => objK s i fun o => o.ver = ver ∧ (o.sz = 0 ∧ keysOK o.es = true ∧ one y = true) ∧ setHK s i { o with es := putM o.es x y } K
      | _, _, _ => False
    | _ => False
theorem mapSetW_ok {t : TypeId} {m x y : AV} {v u z : Value} {K : AHeap → Prop} (hT : TOk P T) (hg : Good G C) (hm : RepV C m v) (hx : RepV C x u) (hy : RepV C y z) (h : mapSetW T t C.s m x y K) :
    ∃ C', (Instr.mapUpdate t v u z).run P C.w = .ok () C'.w ∧ Good G C' ∧ Ext C C' ∧ K C'.s := by
  obtain ⟨ti, hti, h1⟩ := tyK_ok hT h
  clear h
  split at h1
  · rename_i kt et hd
    obtain ⟨tk, htk, h2⟩ := tyK_ok hT h1
    clear h1
    split at h2
    · rename_i i ver x hk
      obtain ⟨o, ho, hver, ⟨hz, hko, hone⟩, h⟩ := objK_ok h2
      rw [setHK_eq] at h
      simp only [RepV, RepF] at hm hx
      subst hx
      obtain ⟨_, g, hgb, rfl⟩ := hm.2.2 o ho hver
      obtain ⟨hov, _, hes, xs, hown, hrep, hall⟩ := hg.obj i o ho
      have hown0 := hown
      rw [hz] at hown
      obtain ⟨b, ms, clock, h1, hb, rfl⟩ := hown
      have hbg : b = g := by rw [h1] at hgb; simpa [Value.ownBlock] using hgb
      subst hbg
      have hut := und_map hti hd
      have huk := und_str htk hk
      have hkey : MapKept.IsKey .string (.string ⟨⟨x⟩⟩) := trivial
      have hlive : C.live i o := ho
      -- what is written
      have fin : ∀ (ms' : Array MapEntry) (clock' : Nat), (Instr.mapUpdate t (.map (some b)) (.string ⟨⟨x⟩⟩) z).run P C.w = .ok () { C.w with heap := C.w.heap.setIfInBounds b (.map ms' clock') } → RepLL C (putM o.es x y) (mapCells ms') → (∀ c ∈ mapCells ms', c ∈ mapCells ms ∨ c = .string ⟨⟨x⟩⟩ ∨ c = z) →
          ∃ C', (Instr.mapUpdate t (.map (some b)) (.string ⟨⟨x⟩⟩) z).run P C.w = .ok () C'.w ∧ Good G C' ∧ Ext C C' ∧ K C'.s := by
        intro ms' clock' hrun hrep' hcells
        have hgrow : C.w.grownBy { C.w with heap := C.w.heap.setIfInBounds b (.map ms' clock') } (C.io i).ownBlock := ⟨rfl, rfl, rfl, by simp, fun k _ hk => (MapKept.heap_set hb).2 k (fun e => hk (by rw [h1, e]; rfl))⟩
        refine ⟨C.repl { C.w with heap := C.w.heap.setIfInBounds b (.map ms' clock') } i { o with es := putM o.es x y } (C.io i), hrun, ?_, ext_repl hg hlive hgrow (.inr ⟨rfl, rfl, rfl⟩) (fun g h => .inr h), h⟩
        refine good_repl' hg hlive hgrow (.inr ⟨rfl, rfl, rfl⟩) (fun g h => .inr h) ?_ ?_ hrep' ?_
        · show ∀ e ∈ putM o.es x y, e.length = wd o.sz
          rw [hz]; exact putM_len x y hko
        · show owns _ o.t o.sz _ _ _
          rw [hz]
          exact ⟨b, ms', clock', h1, (MapKept.heap_set hb).1, rfl⟩
        · intro c hc
          rcases hcells c hc with hc | rfl | rfl
          · exact hall c hc
          · rfl
          · exact one_ok hy hone
      rw [mapCells_eq] at hrep
      rcases find_rep x 0 hrep hko with ⟨g1, _, g3⟩ | ⟨j, e, a, g1, g2, g3, _, g5, g6⟩
      · refine fin (ms.push { key := .string ⟨⟨x⟩⟩, val := z, born := clock }) (clock + 1) ?_ ?_ ?_
        · simp [Instr.mapUpdate, run_underlying hut, MapKept.run_getObj_map hb, MapKept.run_checkKey huk hkey, MapKept.run_findKey huk g1, MapKept.run_setObj_map _ hb, Result.andThen]
        · rw [g3 y, mapCells_eq]
          simp only [Array.toList_push, cellsM, List.flatMap_append, List.flatMap_cons, List.flatMap_nil, List.append_nil]
          refine RepLL.append hrep ?_
          simp only [RepLL, RepL, RepV, RepF]
          exact ⟨[.string ⟨⟨x⟩⟩, z], [], rfl, ⟨_, _, rfl, rfl, _, _, rfl, hy, rfl⟩, rfl⟩
        · intro c hc
          rw [mapCells_eq] at hc
          simp only [Array.toList_push, cellsM, List.flatMap_append, List.flatMap_cons, List.flatMap_nil, List.append_nil, List.mem_append] at hc
          rcases hc with hc | hc
          · exact .inl hc
          · right; simpa using hc
      · have hj : ms[j]? = some e := by simpa using g2
        simp only [Nat.zero_add] at g1
        refine fin (ms.modify j fun e => { e with key := .string ⟨⟨x⟩⟩, val := z }) clock ?_ ?_ ?_
        · simp [Instr.mapUpdate, run_underlying hut, MapKept.run_getObj_map hb, MapKept.run_checkKey huk hkey, MapKept.run_findKey huk g1, hj, g3, MapKept.run_keyThatStays hkey, MapKept.run_setObj_map _ hb, Result.andThen]
        · rw [mapCells_eq, Array.toList_modify]
          exact g6 y z hy
        · intro c hc
          rw [mapCells_eq, Array.toList_modify] at hc
          simp only [cellsM, List.mem_flatMap] at hc
          obtain ⟨q, hq, hc⟩ := hc
          rw [List.mem_iff_getElem?] at hq
          obtain ⟨n, hn⟩ := hq
          rw [List.getElem?_modify] at hn
          cases hm' : ms.toList[n]? with
          | none => simp [hm'] at hn
          | some q0 =>
            rw [hm'] at hn
            by_cases hjn : j = n
            · simp [hjn] at hn
              subst hn
              right; simpa using hc
            · simp [hjn] at hn
              subst hn
              left
              rw [mapCells_eq]
              exact List.mem_flatMap.2 ⟨q0, List.mem_of_getElem? hm', hc⟩
    · exact h2.elim
  · exact h1.elim
end
end Go.Abs
/- Operations that write, make memory or call. -/
namespace Go.Abs
open Go
section
variable {P : Program} {G : Globs} {T : TT} {C : Ctx}
theorem fz_grown {w : World} (hgrow : C.w.grownBy w none) (b : Nat) (hb : C.fz b) : (C.inW w).fz b := ⟨Nat.lt_of_lt_of_le hb.1 hgrow.size, hb.2⟩
theorem ext_grown {w : World} (hg : Good G C) (hgrow : C.w.grownBy w none) : Ext C (C.inW w) :=
  ⟨hgrow.os, hgrow.tape, hgrow.output, hgrow.size, Nat.le_refl _, rfl, fun b hb => hgrow.block b (hg.out b hb) (by simp), fun i o h _ => ⟨o, h, rfl, rfl, rfl⟩,
   fun b hb => ⟨fz_grown hgrow b hb, hgrow.block b hb.1 (by simp)⟩⟩
theorem good_grown {w : World} (hg : Good G C) (hgrow : C.w.grownBy w none) : Good G (C.inW w) := by
  have he := ext_grown hg hgrow
  refine ⟨fun i o hl => ?_, hg.apart, hg.own, fun b hb => Nat.lt_of_lt_of_le (hg.out b hb) hgrow.size, fun p hp => ?_⟩
  · obtain ⟨a1, a2, a3, xs, a4, a5, a6⟩ := hg.obj i o hl
    exact ⟨a1, a2, a3, xs, a4.kept hgrow (by cases h : (C.io i).ownBlock <;> simp [Ctx.inW, h]), RepLL.ext he _ _ a5, a6⟩
  · obtain ⟨us, b1, b2, b3⟩ := hg.glob p hp
    exact ⟨us, (he.fz _ b1).1, readsG_ext he.fext b1 b2, RepFL.ext he.fext _ _ b3⟩
def convMemW (T : TT) (src dst : TypeId) (s : AHeap) (a : AV) (K : AV → Prop) : Prop :=
  tyK T src fun ts => tyK T dst fun td => match ts.d, td.d with
    | .str, .slice e => tyK T e fun te => match te.d, a with
      | .int .u8, .str s => K (.fsl (byteEs s))
      | _, _ => False
    | .slice e, .str => tyK T e fun te => match te.d with
      | .int .u8 => elemsK s a fun es => ∃ l, es = byteEs l ∧ K (.str l)
      | _ => False
    | .ptr e, .uptr => tyK T e fun te => match te.size, a with
      | _ + 1, .ptr i v k off => objK s i fun o => o.ver = v ∧ (k < o.es.length ∧ off < o.sz) ∧ K (.ptr i v k off)
      | _, _ => False
    | .uptr, .ptr u => tyK T u fun tu => match tu.size, a with
      | n + 1, .ptr i v 0 0 => objK s i fun o => o.ver = v ∧ (o.t = u ∧ o.sz = n + 1 ∧ 0 < o.es.length) ∧ K (.ptr i v 0 0)
      | _, _ => False
    | _, _ => False
theorem RepFLL_bytes (C : Ctx) : ∀ l : List UInt8, RepFLL C (byteEs l) (l.map fun (b : UInt8) => Value.int .u8 (b.toNat : Int))
  | [] => by simp [byteEs, RepFLL]
  | b :: l => by
    simp only [byteEs, List.map_cons, RepFLL]
    refine ⟨[.int .u8 (b.toNat : Int)], l.map fun (b : UInt8) => Value.int .u8 (b.toNat : Int), rfl, ?_, RepFLL_bytes C l⟩
    simp [RepFL, RepF]
theorem bytes_of_RepLL {C : Ctx} : ∀ {l : List UInt8} {us : List Value}, RepLL C (byteEs l) us → us = l.map fun (b : UInt8) => Value.int .u8 (b.toNat : Int)
  | [], us, h => by simpa [byteEs, RepLL] using h
  | b :: l, us, h => by
    simp only [byteEs, List.map_cons, RepLL] at h
    obtain ⟨p, r, rfl, h1, h2⟩ := h
    simp only [RepL, RepV, RepF] at h1
    obtain ⟨u, r', rfl, rfl, rfl⟩ := h1
    rw [bytes_of_RepLL h2]; rfl
theorem und_uptr {t : TypeId} {ti : TI} (h : TFits P t ti) (hd : ti.d = .uptr) : P.underlying t = some .unsafePointer := by
  obtain ⟨d, hd', hk⟩ := h.und
  rw [hd] at hk
  cases d <;> simp [TD.of] at hk
  exact hd'
theorem lies_self {t : TypeId} {n : Nat} (h0 : P.cellsOf t ≠ 0) (hn : 1 ≤ n) : liesAt P P.depth t n 0 t 1 = true := by
  obtain ⟨d, hd⟩ : ∃ d, P.depth = d + 1 := ⟨_, rfl⟩
  rw [hd, liesAt, hd, rowAt, sameLayout]
  simp [h0, hn]
theorem row_block {i : Nat} {o : AObj} {g : Nat} (hz : 0 < o.sz) (hg : Good G C) (ho : C.s[i]? = some (some o)) (hgb : (C.io i).ownBlock = some g) :
    ∃ (cap : Nat) (cur : Array Value), C.w.heap[g]? = some (.cells cur o.t (0, 0)) ∧ o.es.length * o.sz ≤ cur.size := by
  obtain ⟨_, _, _, xs, hown, _⟩ := hg.obj i o ho
  rcases (hown.row hz).2 with ⟨h1, _⟩ | ⟨g', cap, cur, h1, _, hgc, hnc, _, hcs, _⟩
  · rw [h1] at hgb; simp [Value.ownBlock] at hgb
  · rw [h1] at hgb
    have : g' = g := by simpa [Value.ownBlock] using hgb
    subst this
    exact ⟨cap, cur, hgc, by rw [hcs]; exact Nat.mul_le_mul_right _ hnc⟩
theorem convMemW_ok {src dst : TypeId} {a : AV} {u : Value} {K : AV → Prop} (hT : TOk P T) (hg : Good G C) (ha : RepV C a u) (h : convMemW T src dst C.s a K) : YieldsA P G C (convert src dst u) fun v s => s = C.s ∧ K v := by
  obtain ⟨ts, hts, h1⟩ := tyK_ok hT h
  obtain ⟨td, htd, h2⟩ := tyK_ok hT h1
  clear h h1
  split at h2
  · rename_i e hs hd
    obtain ⟨te, hte, h3⟩ := tyK_ok hT h2
    split at h3
    · rename_i s he
      simp only [RepV, RepF] at ha
      subst ha
      have hrun := run_bytes_of_string (P := P) C.w src dst e ⟨⟨s⟩⟩ (und_str hts hs) (und_slice htd hd) (und_int hte he)
      generalize hcap : grownCap C.w (⟨⟨s⟩⟩ : ByteArray).size 0 e = cap at hrun
      have hge : s.length ≤ cap := by rw [← hcap]; exact grownCap_ge _ _ _ _
      generalize hw : (C.w.drew.alloc _ : World) = w' at hrun
      have hgrow : C.w.grownBy w' none := by rw [← hw]; exact ⟨rfl, rfl, rfl, by simp, fun k hk _ => RowKit.Below.heap_alloc C.w.drew _ k hk⟩
      refine ⟨C.inW w', _, _, hrun, good_grown hg hgrow, ext_grown hg hgrow, ?_, rfl, h3⟩
      have hblk : w'.heap[C.w.heap.size]? = some (.cells (bytesRow ⟨⟨s⟩⟩ cap) e ((bytesRow ⟨⟨s⟩⟩ cap).size, (bytesRow ⟨⟨s⟩⟩ cap).size + 1)) := by rw [← hw]; exact heap_alloc_new C.w.drew _
      simp only [RepV, RepF]
      refine ⟨some ⟨C.w.heap.size, 0, none⟩, cap, by simpa [byteEs] using hge, by simp [byteEs, str_size], ?_⟩
      right
      refine ⟨C.w.heap.size, 0, s.map fun (b : UInt8) => Value.int .u8 (b.toNat : Int), rfl, ⟨?_, fun i o hl => ?_, fun hF => ?_⟩, fun j x hx => ?_, RepFLL_bytes _ s⟩
      · have := (Array.getElem?_eq_some_iff.1 hblk).1; exact this
      · intro e2; have := own_lt hg hl _ e2; omega
      · have := hg.out _ hF; omega
      · have hj : j < s.length := by have := (List.getElem?_eq_some_iff.1 hx).1; simpa using this
        simp only [World.cell?, Ctx.inW, hblk, Nat.zero_add]
        simp only [Option.isSome_none, Bool.false_eq_true, if_false]
        rw [← hx]
        unfold bytesRow
        rw [Array.getElem?_append_left (by simpa using hj)]
        simp
    · exact h3.elim
  · rename_i e hs hd
    obtain ⟨te, hte, h3⟩ := tyK_ok hT h2
    split at h3
    · rename_i he
      obtain ⟨es, us, hrep, ⟨l, rfl, hk⟩, hsrc⟩ := elemsK_ok hg ha h3
      have hus := bytes_of_RepLL hrep
      rcases hsrc with ⟨hnil, rfl⟩ | ⟨p, cap, rfl, hcell⟩
      · have hl : l = [] := by simpa [byteEs] using hnil
        subst hl
        refine YieldsA.same (r := .string ⟨⟨[]⟩⟩) hg ?_ (by simp [RepV, RepF]) ⟨rfl, hk⟩
        rw [run_convert_bytes_string C.w src dst e none 0 0 (und_slice hts hs) (und_int hte he) (und_str htd hd)]
        rfl
      · refine YieldsA.same (r := .string ⟨⟨l⟩⟩) hg ?_ (by simp [RepV, RepF]) ⟨rfl, hk⟩
        have := run_convert_bytes_back (P := P) C.w src dst e p cap l (und_slice hts hs) (und_int hte he) (und_str htd hd) (fun j hj => hcell j _ (by rw [hus]; simp [hj]))
        simpa [byteEs] using this
    · exact h3.elim
  · rename_i e hs hd
    obtain ⟨te, hte, h3⟩ := tyK_ok hT h2
    split at h3
    · rename_i n i v k off hsz
      obtain ⟨o, ho, hver, ⟨hk, hoff⟩, h3⟩ := objK_ok h3
      obtain ⟨hz, g, hgb, rfl⟩ := ptr_live ho hver ha
      obtain ⟨inf, hi, hin, _⟩ := hte.info
      obtain ⟨cap, cur, hgc, hcs⟩ := row_block hz hg ho hgb
      refine YieldsA.same (r := .pointer (some ⟨g, k * o.sz + off, none⟩)) hg ?_ ha ⟨rfl, h3⟩
      refine Lib.run_to_unsafe (P := P) C.w (e := o.t) (cells := cur.size) ⟨g, k * o.sz + off, none⟩ (und_ptr hts hs) (und_uptr htd hd) hi (by rw [hin, hsz]; exact Nat.succ_ne_zero _) (by simp [World.shape?, hgc]) ?_
      show k * o.sz + off < cur.size
      have : (k + 1) * o.sz ≤ o.es.length * o.sz := Nat.mul_le_mul_right _ hk
      rw [Nat.add_mul, Nat.one_mul] at this
      omega
    · exact h3.elim
  · rename_i u hs hd
    obtain ⟨tu, htu, h3⟩ := tyK_ok hT h2
    split at h3
    · rename_i n i v hsz
      obtain ⟨o, ho, hver, ⟨ht, hos, hpos⟩, h3⟩ := objK_ok h3
      obtain ⟨hz, g, hgb, rfl⟩ := ptr_live ho hver ha
      obtain ⟨inf, hi, hin, _⟩ := htu.info
      obtain ⟨cap, cur, hgc, hcs⟩ := row_block hz hg ho hgb
      refine YieldsA.same (r := .pointer (some ⟨g, 0 * o.sz + 0, none⟩)) hg ?_ ha ⟨rfl, h3⟩
      have hcell : P.cellsOf o.t = n + 1 := by rw [ht]; simp [Program.cellsOf, hi, hin, hsz]
      have h1 : n + 1 ≤ cur.size := by
        have : 1 * o.sz ≤ o.es.length * o.sz := Nat.mul_le_mul_right _ hpos
        omega
      refine Lib.run_from_unsafe (P := P) C.w (e := o.t) (cells := cur.size) ⟨g, 0 * o.sz + 0, none⟩ (und_uptr hts hs) (und_ptr htd hd) hi (by simp [World.shape?, hgc]) ?_
      simp only [Nat.zero_mul, Nat.add_zero]
      rw [← ht]
      exact lies_self (by rw [hcell]; exact Nat.succ_ne_zero _) (by rw [hcell]; exact Nat.div_pos h1 (Nat.succ_pos _))
    · exact h3.elim
  · exact h2.elim
def tassW (T : TT) (asserted : TypeId) (commaOk : Bool) (a : AV) (K : AV → Prop) : Prop :=
  tyK T asserted fun ti => match ti.d with
    | .iface => False
    | _ => match a with
      | .iface t v => match Nat.beq t asserted with
        | true => match commaOk with
          | true => K (.tuple [v, .bool true])
          | false => K v
        | false => match commaOk with
          | true => zeroK ti fun z => K (.tuple [z, .bool false])
          | false => False
      | .nili => match commaOk with
        | true => zeroK ti fun z => K (.tuple [z, .bool false])
        | false => False
      | _ => False
theorem tassW_ok {xt asserted : TypeId} {commaOk : Bool} {a : AV} {u : Value} {K : AV → Prop} (hT : TOk P T) (ha : RepV C a u) (h : tassW T asserted commaOk a K) :
    ∃ av r, (∀ w, (Instr.typeAssert u xt asserted commaOk).run P w = .ok r w) ∧ RepV C av r ∧ K av := by
  obtain ⟨ti, hti, h1⟩ := tyK_ok hT h
  clear h
  have h := h1
  clear h1
  obtain ⟨d, hd, hk⟩ := hti.und
  split at h
  · exact h.elim
  · rename_i hne
    have hni : ∀ ms, d ≠ .interface ms := fun ms e => by subst e; exact hne hk.symm
    have fal : ∀ z, (∀ w, (zeroValue asserted).run P w = .ok z w) → commaOk = true → ((∃ t v, u = .iface t v ∧ t ≠ asserted) ∨ u = .nilIface) → ∀ w, (Instr.typeAssert u xt asserted commaOk).run P w = .ok (.tuple #[z, .bool false]) w := by
      rintro z hz rfl (⟨t, v, rfl, hne⟩ | rfl) w
      · unfold Instr.typeAssert
        rw [Sem.run_bind, run_underlying hd, Result.andThen_ok]
        cases d <;> first | exact absurd rfl (hni _) | simp [hne, hz]
      · unfold Instr.typeAssert
        rw [Sem.run_bind, run_underlying hd, Result.andThen_ok]
        cases d <;> first | exact absurd rfl (hni _) | simp [hz]
    split at h
    · rename_i t v
      simp only [RepV] at ha
      obtain ⟨y, rfl, hy⟩ := ha
      split at h
      · rename_i hb
        have : t = asserted := Nat.eq_of_beq_eq_true hb
        subst this
        have holds : ∀ w, (Instr.typeAssert (.iface t y) xt t commaOk).run P w = .ok (if commaOk then .tuple #[y, .bool true] else y) w := fun w => by
          unfold Instr.typeAssert
          rw [Sem.run_bind, run_underlying hd, Result.andThen_ok]
          cases d <;> first | exact absurd rfl (hni _) | simp
        split at h
        · refine ⟨_, .tuple #[y, .bool true], fun w => by rw [holds]; rfl, ?_, h⟩
          simp only [RepV]
          exact ⟨_, rfl, by simp only [RepL]; exact ⟨_, _, rfl, hy, _, _, rfl, by simp [RepV, RepF], rfl⟩⟩
        · exact ⟨_, y, fun w => by rw [holds]; rfl, hy, h⟩
      · rename_i hb
        have hne : t ≠ asserted := fun e => by rw [e] at hb; simp at hb
        split at h
        · obtain ⟨a, z, hz, ha, h⟩ := zeroK_ok (P := P) (C := C) hti h
          refine ⟨_, .tuple #[z, .bool false], fun w => fal z hz rfl (.inl ⟨t, y, rfl, hne⟩) w, ?_, h⟩
          simp only [RepV]
          exact ⟨_, rfl, by simp only [RepL]; exact ⟨_, _, rfl, ha, _, _, rfl, by simp [RepV, RepF], rfl⟩⟩
        · exact h.elim
    · simp only [RepV, RepF] at ha
      subst ha
      split at h
      · obtain ⟨a, z, hz, ha, h⟩ := zeroK_ok (P := P) (C := C) hti h
        refine ⟨_, .tuple #[z, .bool false], fun w => fal z hz rfl (.inr rfl) w, ?_, h⟩
        simp only [RepV]
        exact ⟨_, rfl, by simp only [RepL]; exact ⟨_, _, rfl, ha, _, _, rfl, by simp [RepV, RepF], rfl⟩⟩
      · exact h.elim
    · exact h.elim
def CallW (P : Program) (G : Globs) (f : FuncId) (as : List AV) (s : AHeap) (K : AV → AHeap → Prop) (KP : AV → AHeap → Prop) : Prop :=
  ∃ js O as', Hands s js O ∧ insideL js.length as' = true ∧ as = renL js as' ∧ Does P G f as' O fun ae s' => match ae with
    | .ret r => K (ren js r) (putR js s js s')
    | .panic a => KP (ren js a) (putR js s js s')
def effW (P : Program) (G : Globs) (T : TT) (op : Op) (e : Env) (s : AHeap) (K : AV → AHeap → Prop) (KP : AV → AHeap → Prop) : Prop :=
  match op with
  | .load t x => evK G e x fun a => loadW T t s a fun v => K v s
  | .alloc t => allocW T t s K
  | .box t x => evK G e x fun a => boxW t s a K
  | .buildSlice t len parts => evPK G e parts.toList fun ps => buildSliceW T t len s ps K
  | .store t x y => evK G e x fun a => evK G e y fun v => storeW T t s a v fun s' => K (.tuple []) s'
  | .makeSlice t l c => evK G e l fun l => evK G e c fun c => makeSliceW T t s l c K
  | .convert src dst x => evK G e x fun a => convMemW T src dst s a fun v => K v s
  | .call { callee := .builtin .append, args, argTypes } => match args.toList, argTypes.toList with
    | [x, y], [t, t'] => match Nat.beq t' t with
      | true => evK G e x fun a => evK G e y fun b => appendW T t s a b K
      | false => evK G e x fun a => evK G e y fun b => appendSW T t t' s a b K
    | _, _ => False
  | .call { callee := .value f, args, .. } => evK G e f fun fv => match fv with
    | .func (.func n) first captured => evLK G e args.toList fun as => CallW P G n (first ++ as ++ captured) s K KP
    | _ => False
  | .panic x => evK G e x fun a => match a with
    | .iface t v => KP (.iface t v) s
    | _ => False
  | .makeMap t r => match r with
    | none => makeMapW t s K
    | some r => evK G e r fun a => makeMapRW T t a s K
  | .mapUpdate t m x y => evK G e m fun m => evK G e x fun x => evK G e y fun y => mapSetW T t s m x y fun s' => K (.tuple []) s'
  | .lookup t m x ok => evK G e m fun m => evK G e x fun x => lookupW T t ok s m x fun v => K v s
  | .typeAssert x _ t ok => evK G e x fun a => tassW T t ok a fun v => K v s
  | _ => False
theorem effW_ok {ds : List Deferred} {C0 : Ctx} {Q : AQ} {o : Oper} {e : Env} {a : Act} {K : AV → AHeap → Prop} {next : Act → World → Prop} (hT : TOk P T) (hg : Good G C) (hr : RepL C e a.tmps.toList) (hd : a.defers = ds) (h0 : Ext C0 C)
    (h : effW P G T o.op e C.s K fun v s => Q (.panic v) [] s)
    (hn : ∀ av r C', Good G C' → Ext C C' → RepV C' av r → K av C'.s → next (a.put o.dst r) C'.w) : o.wp P a C.w next (APost G C0 ds Q) := by
  have lift : ∀ {x : Sem Value}, (execOp a.eval o = do pure (.value (← x))) → YieldsA P G C x K → o.wp P a C.w next (APost G C0 ds Q) := by
    rintro x hx ⟨C', av, r, h1, h2, h3, h4, h5⟩
    unfold Oper.wp
    rw [hx, Sem.run_bind, h1]
    exact hn av r C' h2 h3 h4 h5
  obtain ⟨dst, op, ty, pos, after, guard⟩ := o
  dsimp only at h hn
  unfold effW at h
  split at h
  · obtain ⟨av, h1, h⟩ := evK_ok hg hr h
    obtain ⟨bv, r, h2, h3, h4⟩ := loadW_ok hT hg h1 h
    exact lift rfl (YieldsA.same hg h2 h3 h4)
  · obtain ⟨C', av, r, h1⟩ := allocW_ok (P := P) hT hg h
    exact lift rfl ⟨C', av, r, h1⟩
  · obtain ⟨av, h1, h⟩ := evK_ok hg hr h
    obtain ⟨C', av, r, h1⟩ := boxW_ok (P := P) hg h1 h
    exact lift rfl ⟨C', av, r, h1⟩
  · rename_i t len parts
    obtain ⟨ps, h1, h⟩ := evPK_ok hg hr h
    exact lift rfl (buildSliceW_ok hT hg (by simpa using h1) h)
  · obtain ⟨av, h1, h⟩ := evK_ok hg hr h
    obtain ⟨bv, h2, h⟩ := evK_ok hg hr h
    obtain ⟨C', h3, h4, h5, h6⟩ := storeW_ok (P := P) hT hg h1 h2 h
    unfold Oper.wp
    simp only [execOp, Sem.run_bind, h3, Result.andThen_ok, Sem.run_pure]
    exact hn (.tuple []) undef C' h4 h5 (by simp only [RepV]; exact ⟨#[], rfl, by simp [RepL]⟩) h6
  · obtain ⟨av, h1, h⟩ := evK_ok hg hr h
    obtain ⟨bv, h2, h⟩ := evK_ok hg hr h
    obtain ⟨C', av, r, h1⟩ := makeSliceW_ok (P := P) hT hg h1 h2 h
    exact lift rfl ⟨C', av, r, h1⟩
  · obtain ⟨av, h1, h⟩ := evK_ok hg hr h
    obtain ⟨C', av, r, h2, h3, h4, h5, h6, h7⟩ := convMemW_ok (P := P) hT hg h1 h
    exact lift rfl ⟨C', av, r, h2, h3, h4, h5, by rw [h6]; exact h7⟩
  · rename_i args argTypes
    split at h
    · rename_i x y t t' hx ht
      have hx : args = #[x, y] := by rw [← Array.toArray_toList (xs := args), hx]
      have ht : argTypes = #[t, t'] := by rw [← Array.toArray_toList (xs := argTypes), ht]
      subst hx; subst ht
      split at h
      · rename_i hb
        have : t' = t := Nat.eq_of_beq_eq_true hb
        subst this
        obtain ⟨av, h1, h⟩ := evK_ok hg hr h
        obtain ⟨bv, h2, h⟩ := evK_ok hg hr h
        obtain ⟨C', av, r, h1⟩ := appendW_ok (P := P) (ty := ty) hT hg h1 h2 h
        exact lift (x := Builtin.append_ #[t', t'] ty #[a.eval x, a.eval y]) (by simp [execOp, resolve, invoke, builtin]) ⟨C', av, r, h1⟩
      · obtain ⟨av, h1, h⟩ := evK_ok hg hr h
        obtain ⟨bv, h2, h⟩ := evK_ok hg hr h
        obtain ⟨C', av, r, h1⟩ := appendSW_ok (P := P) (ty := ty) hT hg h1 h2 h
        exact lift (x := Builtin.append_ #[t, t'] ty #[a.eval x, a.eval y]) (by simp [execOp, resolve, invoke, builtin]) ⟨C', av, r, h1⟩
    · exact h.elim
  · rename_i f args argTypes
    obtain ⟨fv, h1, h⟩ := evK_ok hg hr h
    split at h
    · rename_i n first captured
      obtain ⟨as, h2, js, O, as', hh, hin, heq, hdoes⟩ := evLK_arr hg hr h
      simp only [RepV] at h1
      obtain ⟨f1, c1, hf, h3, h4⟩ := h1
      have hrep : RepL C (renL js as') (f1.toList ++ (args.map a.eval).toList ++ c1.toList) := by rw [← heq]; exact RepL.append (RepL.append h3 h2) h4
      have hcall := call_ok (P := P) hg hh hin hrep hdoes
      have harr : (f1.toList ++ (args.map a.eval).toList ++ c1.toList).toArray = f1 ++ args.map a.eval ++ c1 := by simp
      rw [harr] at hcall
      unfold Oper.wp
      have hex : (execOp a.eval ⟨dst, .call { callee := .value f, args, argTypes }, ty, pos, after, guard⟩).run P C.w = (callFunc n (f1 ++ args.map a.eval ++ c1)).run P C.w := by
        simp [execOp, resolve, hf, Deferred.ofValue, invoke]
      rw [hex]
      unfold CallsF at hcall
      generalize (callFunc n (f1 ++ args.map a.eval ++ c1)).run P C.w = res at hcall
      have done : ∀ (e : Ending) (w' : World), (∃ (ae : AEnd) (s' : AHeap) (C' : Ctx), C'.w = w' ∧ Good G C' ∧ Ext C C' ∧ C'.s = putR js C.s js s' ∧ s'.length = O.length ∧ (match ae with
          | .ret r => K (ren js r) (putR js C.s js s')
          | .panic a => Q (.panic (ren js a)) [] (putR js C.s js s') : Prop) ∧ match ae, e with
        | .ret r, .returned v => RepV C' (ren js r) v
        | .panic a, .panicked ch => ∃ v, ch = [{ v, recovered := false }] ∧ RepV C' (ren js a) v
        | _, _ => False) → (match e, w' with
          | .returned v, w'' => next (a.put dst v) w''
          | .panicked chain, w'' => APost G C0 ds Q (.panic chain) a w''
          | .outgrown, _ => LetsOut (APost G C0 ds Q) : Prop) := by
        rintro e w' ⟨ae, s', C', rfl, g1, g2, g3, g4, g5, g6⟩
        cases ae with
        | ret r =>
          cases e with
          | returned v => exact hn _ v C' g1 g2 g6 (by rw [g3]; exact g5)
          | panicked ch => exact g6.elim
          | outgrown => exact g6.elim
        | panic x =>
          cases e with
          | returned v => exact g6.elim
          | panicked ch =>
            obtain ⟨v, g7, g8⟩ := g6
            exact ⟨C', rfl, g1, h0.trans g2, hd, v, _, g7, g8, by rw [g3]; exact g5⟩
          | outgrown => exact g6.elim
      split at hcall
      · exact done _ _ hcall
      · exact hcall.mono done
      · exact hcall.elim
    · exact h.elim
  · obtain ⟨av, h1, h⟩ := evK_ok hg hr h
    split at h
    · rename_i t v
      have h1' := h1
      simp only [RepV] at h1'
      obtain ⟨y, hv, _⟩ := h1'
      unfold Oper.wp
      simp only [execOp, hv, Instr.panic, Sem.run_bind, run_goPanic, Result.andThen_halt]
      exact ⟨C, rfl, hg, h0, hd, .iface t y, .iface t v, rfl, by rw [← hv]; exact h1, h⟩
    · exact h.elim
  · rename_i t r
    split at h
    · exact lift rfl (makeMapW_ok (P := P) hg h)
    · obtain ⟨av, h1, h⟩ := evK_ok hg hr h
      exact lift rfl (makeMapRW_ok (P := P) hT hg h1 h)
  · obtain ⟨mv, h1, h⟩ := evK_ok hg hr h
    obtain ⟨xv, h2, h⟩ := evK_ok hg hr h
    obtain ⟨yv, h3, h⟩ := evK_ok hg hr h
    obtain ⟨C', h4, h5, h6, h7⟩ := mapSetW_ok (P := P) hT hg h1 h2 h3 h
    unfold Oper.wp
    simp only [execOp, Sem.run_bind, h4, Result.andThen_ok, Sem.run_pure]
    exact hn (.tuple []) undef C' h5 h6 (by simp only [RepV]; exact ⟨#[], rfl, by simp [RepL]⟩) h7
  · obtain ⟨mv, h1, h⟩ := evK_ok hg hr h
    obtain ⟨xv, h2, h⟩ := evK_ok hg hr h
    obtain ⟨bv, r, h3, h4, h5⟩ := lookupW_ok (P := P) hT hg h1 h2 h
    exact lift rfl (YieldsA.same hg h3 h4 h5)
  · rename_i x xt t ok
    obtain ⟨av, h1, h⟩ := evK_ok hg hr h
    obtain ⟨bv, r, h2, h3, h4⟩ := tassW_ok (P := P) (xt := xt) hT h1 h
    exact lift rfl (YieldsA.same hg (h2 _) h3 h4)
  · exact h.elim
end
end Go.Abs
/- Regions: in the order of the text, and in whatever order is drawn. -/
namespace Go.Abs
open Go
def nthO : List Oper → Nat → (Oper → Prop) → Prop
  | [], _, _ => False
  | o :: _, 0, k => k o
  | _ :: l, n + 1, k => nthO l n k
theorem nthO_ok : ∀ {l : List Oper} {n : Nat} {k : Oper → Prop}, nthO l n k → ∃ o, l[n]? = some o ∧ k o
  | [], n, k, h => by cases n <;> exact h.elim
  | o :: l, 0, k, h => ⟨o, rfl, h⟩
  | o :: l, n + 1, k, h => by obtain ⟨x, h1, h2⟩ := nthO_ok (l := l) (n := n) h; exact ⟨x, by simpa using h1, h2⟩
def boolOf : Value → Option Bool
  | .bool b => some b
  | _ => none
def guardK (l : List Oper) (o : Oper) (e : Env) (yes no : Prop) : Prop :=
  match o.guard with
  | none => yes
  | some (j, want) => nthO l j fun oj => match oj.dst with
    | some t => nthK e t fun a => match a with
      | .bool b => match b with
        | true => match want with | true => yes | false => no
        | false => match want with | true => no | false => yes
      | .tuple [] => no
      | _ => False
    | none => False
section
variable {P : Program} {G : Globs} {T : TT} {C : Ctx}
theorem guardK_ok {l : List Oper} {o : Oper} {e : Env} {a : Act} {yes no : Prop} (hr : RepL C e a.tmps.toList) (h : guardK l o e yes no) :
    (Region.wanted o (yielded l.toArray a.tmps) = true ∧ yes) ∨ (Region.wanted o (yielded l.toArray a.tmps) = false ∧ no) := by
  unfold guardK at h
  split at h
  · rename_i hg
    exact .inl ⟨by simp [Region.wanted, hg], h⟩
  · rename_i j want hg
    obtain ⟨oj, hj, h⟩ := nthO_ok h
    split at h
    · rename_i t ht
      obtain ⟨av, hav, h⟩ := nthK_ok h
      obtain ⟨v, hv, hrv⟩ := RepL.get hr hav
      have hv2 : a.tmps[t]? = some v := by simpa using hv
      have hy : yielded l.toArray a.tmps j = boolOf v := by
        unfold yielded
        simp only [List.getElem?_toArray, hj, Option.bind_some, ht, hv2]
        cases v <;> rfl
      split at h
      · rename_i b
        simp only [RepV, RepF] at hrv
        subst hrv
        simp only [boolOf] at hy
        cases b <;> cases want <;> simp only at h
        · exact .inl ⟨by simp [Region.wanted, hg, hy], h⟩
        · exact .inr ⟨by simp [Region.wanted, hg, hy], h⟩
        · exact .inr ⟨by simp [Region.wanted, hg, hy], h⟩
        · exact .inl ⟨by simp [Region.wanted, hg, hy], h⟩
      · simp only [RepV] at hrv
        obtain ⟨us, rfl, _⟩ := hrv
        right
        exact ⟨by simp [Region.wanted, hg, hy, boolOf], h⟩
      · exact h.elim
    · exact h.elim
theorem putK_eq {e : Env} {d : Option Tmp} {v : AV} {k : Env → Prop} : putK e d v k = k (match d with | some d => e.set d v | none => e) := by
  unfold putK
  split
  · rfl
  · rw [setEK_eq]
theorem rep_put {e : Env} {a : Act} {d : Option Tmp} {v : AV} {r : Value} (hr : RepL C e a.tmps.toList) (hv : RepV C v r) : RepL C (match d with | some d => e.set d v | none => e) (a.put d r).tmps.toList := by
  cases d with
  | none => exact hr
  | some d => simpa [Act.put] using RepL.set hr d hv
theorem put_defers' (a : Act) (d : Option Tmp) (r : Value) : (a.put d r).defers = a.defers := by cases d <;> rfl
def stepW (P : Program) (G : Globs) (T : TT) (l : List Oper) (o : Oper) (e : Env) (s : AHeap) (R : Env → AHeap → Prop) (KP : AV → AHeap → Prop) : Prop :=
  guardK l o e
    (match cls T o.op with
      | 0 => pureW G T o.op e s fun v => putK e o.dst v fun e' => R e' s
      | _ + 1 => effW P G T o.op e s (fun v s' => putK e o.dst v fun e' => R e' s') KP)
    (putK e o.dst (.tuple []) fun e' => R e' s)
structure Fits (G : Globs) (C0 : Ctx) (ds : List Deferred) (C : Ctx) (e : Env) (a : Act) : Prop where
  good : Good G C
  rep : RepL C e a.tmps.toList
  defers : a.defers = ds
  ext : Ext C0 C
variable {C0 : Ctx} {ds : List Deferred} {Q : AQ}
theorem undef_rep (C : Ctx) : RepV C (.tuple []) undef := by simp only [RepV]; exact ⟨#[], rfl, by simp [RepL]⟩
theorem stepW_ok {l : List Oper} {o : Oper} {e : Env} {a : Act} {R : Env → AHeap → Prop} (hT : TOk P T) (hf : Fits G C0 ds C e a) (h : stepW P G T l o e C.s R fun v s => Q (.panic v) [] s) :
    (Region.wanted o (yielded l.toArray a.tmps) = false ∧ ∃ e', Fits G C0 ds C e' (a.put o.dst undef) ∧ R e' C.s) ∨
    (Region.wanted o (yielded l.toArray a.tmps) = true ∧ cls T o.op = 0 ∧ ∃ v e', (∀ w, (execOp a.eval o).run P w = .ok (.value v) w) ∧ Fits G C0 ds C e' (a.put o.dst v) ∧ R e' C.s) ∨
    (Region.wanted o (yielded l.toArray a.tmps) = true ∧ cls T o.op = 1 ∧ ∃ v e', (execOp a.eval o).run P C.w = .ok (.value v) C.w ∧ Fits G C0 ds C e' (a.put o.dst v) ∧ R e' C.s) ∨
    (Region.wanted o (yielded l.toArray a.tmps) = true ∧ 2 ≤ cls T o.op ∧ ∀ next : Act → World → Prop, (∀ C' e' a', Fits G C0 ds C' e' a' → Ext C C' → R e' C'.s → next a' C'.w) → o.wp P a C.w next (APost G C0 ds Q)) := by
  have fit : ∀ {C' : Ctx} {v : AV} {r : Value}, Good G C' → Ext C C' → RepV C' v r → Fits G C0 ds C' (match o.dst with | some d => e.set d v | none => e) (a.put o.dst r) := fun g1 g2 g3 =>
    ⟨g1, rep_put (RepL.ext g2 _ _ hf.rep) g3, by rw [put_defers']; exact hf.defers, hf.ext.trans g2⟩
  rcases guardK_ok hf.rep h with ⟨hw, h⟩ | ⟨hw, h⟩
  · right
    split at h
    · rename_i hc
      left
      obtain ⟨av, r, h1, h2, h3⟩ := pureW_ok (P := P) hT hf.good hf.rep h
      rw [putK_eq] at h3
      exact ⟨hw, hc, r, _, h1, fit hf.good (Ext.refl C) h2, h3⟩
    · rename_i n hc
      by_cases hn : n = 0
      · subst hn
        right; left
        -- a load
        obtain ⟨dst, op, ty, pos, after, guard⟩ := o
        dsimp only at h hc fit hw ⊢
        have hl : ∃ t x, op = .load t x := by
          unfold cls at hc
          split at hc <;> first | exact ⟨_, _, rfl⟩ | (simp at hc; done) | skip
          rename_i a b _
          unfold clsConv at hc
          split at hc <;> first | (split at hc <;> simp at hc; done) | (simp at hc; done)
        obtain ⟨t, x, rfl⟩ := hl
        unfold effW at h
        obtain ⟨av, h1, h⟩ := evK_ok hf.good hf.rep h
        obtain ⟨bv, r, h2, h3, h4⟩ := loadW_ok (P := P) hT hf.good h1 h
        rw [putK_eq] at h4
        refine ⟨hw, by unfold cls; rfl, r, _, ?_, fit hf.good (Ext.refl C) h3, h4⟩
        simp only [execOp, Sem.run_bind, h2]; rfl
      · right; right
        refine ⟨hw, by omega, fun next hnext => effW_ok hT hf.good hf.rep hf.defers hf.ext h fun av r C' g1 g2 g3 g4 => ?_⟩
        rw [putK_eq] at g4
        exact hnext C' _ _ (fit g1 g2 g3) g2 g4
  · left
    rw [putK_eq] at h
    exact ⟨hw, _, fit hf.good (Ext.refl C) (undef_rep C), h⟩
def wpo (P : Program) (G : Globs) (T : TT) (l0 : List Oper) (K : Env → AHeap → Prop) (KP : AV → AHeap → Prop) : List Oper → Env → AHeap → Prop
  | [], e, s => K e s
  | o :: rest, e, s => stepW P G T l0 o e s (fun e' s' => wpo P G T l0 K KP rest e' s') KP
theorem wpo_ok {l0 : List Oper} (hT : TOk P T) : ∀ {l : List Oper} {C : Ctx} {e : Env} {a : Act}, Fits G C0 ds C e a → wpo P G T l0 (Q .normal) (fun v s => Q (.panic v) [] s) l e C.s → wpList P l0.toArray (APost G C0 ds Q) l a C.w
  | [], C, e, a, hf, h => ⟨C, rfl, hf.good, hf.ext, hf.defers, e, hf.rep, h⟩
  | o :: l, C, e, a, hf, h => by
    have h : stepW P G T l0 o e C.s (fun e' s' => wpo P G T l0 (Q .normal) (fun v s => Q (.panic v) [] s) l e' s') (fun v s => Q (.panic v) [] s) := h
    unfold wpList
    rcases stepW_ok hT hf h with ⟨hw, e', h1, h2⟩ | ⟨hw, _, v, e', h1, h2, h3⟩ | ⟨hw, _, v, e', h1, h2, h3⟩ | ⟨hw, _, h1⟩
    · rw [if_neg (by simp [hw])]; exact wpo_ok hT h1 h2
    · rw [if_pos hw]; left; unfold Oper.wp; rw [h1]; exact wpo_ok hT h2 h3
    · rw [if_pos hw]; left; unfold Oper.wp; rw [h1]; exact wpo_ok hT h2 h3
    · rw [if_pos hw]; left; exact h1 _ fun C' e' a' h2 _ h3 => wpo_ok hT h2 h3
/-! ### Whatever order is drawn -/
def mixOp (P : Program) (T : TT) (J : World → Prop) (ops : Array Oper) (Q : Exit → Act → World → Prop) (i : Nat) (K : Act → World → Prop) (a : Act) (w : World) : Prop :=
  match ops[i]? with
  | none => K a w
  | some o => if Region.wanted o (yielded ops a.tmps) = true ∧ cls T o.op ≤ 1 then ∃ v, (execOp a.eval o).run P w = .ok (.value v) w ∧ K (a.put o.dst v) w else wpOp P ops Q i (fun a w => J w ∧ K a w) a w
def wpMix (P : Program) (T : TT) (J : World → Prop) (ops : Array Oper) (Q : Exit → Act → World → Prop) : Nat → Array Bool → Act → World → Prop
  | 0, listed, a, w => Region.ready .any ops listed = [] ∧ Q .normal a w
  | f + 1, listed, a, w => (Region.ready .any ops listed = [] → Q .normal a w) ∧ ∀ i ∈ Region.ready .any ops listed, mixOp P T J ops Q i (wpMix P T J ops Q f (listed.setIfInBounds i true)) a w
theorem mixOp_mono {J J' : World → Prop} {ops : Array Oper} {Q : Exit → Act → World → Prop} {i : Nat} {a : Act} {w : World} {K K' : Act → World → Prop} (hJ : ∀ w, J w → J' w) (h : ∀ a w, K a w → K' a w) (hh : mixOp P T J ops Q i K a w) : mixOp P T J' ops Q i K' a w := by
  unfold mixOp at *
  split
  · exact h _ _ (by simpa [*] using hh)
  · rename_i o ho
    simp only [ho] at hh
    split
    · rename_i hw; rw [if_pos hw] at hh; obtain ⟨v, h1, h2⟩ := hh; exact ⟨v, h1, h _ _ h2⟩
    · rename_i hw; rw [if_neg hw] at hh; exact wpOp_mono (fun a w k => ⟨hJ w k.1, h a w k.2⟩) hh
theorem wpMix_mono {J J' : World → Prop} (hJ : ∀ w, J w → J' w) {ops : Array Oper} {Q : Exit → Act → World → Prop} : ∀ (f : Nat) (listed : Array Bool) (a : Act) (w : World), wpMix P T J ops Q f listed a w → wpMix P T J' ops Q f listed a w
  | 0, _, _, _, h => h
  | f + 1, _, _, _, h => ⟨h.1, fun i hi => mixOp_mono hJ (fun a w => wpMix_mono hJ f _ a w) (h.2 i hi)⟩
theorem wpOp_of_mix {J : World → Prop} {ops : Array Oper} {Q : Exit → Act → World → Prop} {i : Nat} {a : Act} {w : World} {K : Act → World → Prop} (hh : mixOp P T J ops Q i K a w) : wpOp P ops Q i K a w := by
  unfold mixOp at hh
  split at hh
  · rename_i ho; unfold wpOp; simp only [ho]; exact hh
  · rename_i o ho
    split at hh
    · rename_i hw
      obtain ⟨v, h1, h2⟩ := hh
      unfold wpOp
      simp only [ho, hw.1, if_true]
      left; unfold Oper.wp; rw [h1]; exact h2
    · exact wpOp_mono (fun a w k => k.2) hh
theorem wpAny_of_mix {J : World → Prop} {ops : Array Oper} {Q : Exit → Act → World → Prop} : ∀ (f : Nat) (listed : Array Bool) (a : Act) (w : World), wpMix P T J ops Q f listed a w → wpAny P .any ops Q f listed a w
  | 0, _, _, _, h => h
  | f + 1, _, _, _, h => ⟨h.1, fun i hi => wpOp_mono (fun a w => wpAny_of_mix f _ a w) (wpOp_of_mix (h.2 i hi))⟩
def YJ (P : Program) (J : World → Prop) (ops : Array Oper) (o : Oper) (v : Value) (a : Act) : Prop :=
  (Region.wanted o (yielded ops a.tmps) = true ∧ ∀ w, J w → (execOp a.eval o).run P w = .ok (.value v) w) ∨ (Region.wanted o (yielded ops a.tmps) = false ∧ v = undef)
def Sees (ops : Array Oper) (o : Oper) (a a' : Act) : Prop := execOp a'.eval o = execOp a.eval o ∧ Region.wanted o (yielded ops a'.tmps) = Region.wanted o (yielded ops a.tmps)
theorem YJ.of_sees {J : World → Prop} {ops : Array Oper} {o : Oper} {v : Value} {a a' : Act} (h : YJ P J ops o v a) (k : Sees ops o a a') : YJ P J ops o v a' := by
  unfold YJ at *
  rw [k.1, k.2]; exact h
def YMix (P : Program) (T : TT) (J : World → Prop) (ops : Array Oper) (o : Oper) (v : Value) (a : Act) (w : World) : Prop :=
  YJ P J ops o v a ∨ (Region.wanted o (yielded ops a.tmps) = true ∧ cls T o.op ≤ 1 ∧ (execOp a.eval o).run P w = .ok (.value v) w)
theorem YMix.mixOp {J : World → Prop} {ops : Array Oper} {Q : Exit → Act → World → Prop} {i : Nat} {o : Oper} {v : Value} {a : Act} {w : World} (hi : ops[i]? = some o) (hJ : J w) (hc : cls T o.op ≤ 1 ∨ Region.wanted o (yielded ops a.tmps) = false) (hy : YMix P T J ops o v a w) {K : Act → World → Prop} (h : K (a.put o.dst v) w) : mixOp P T J ops Q i K a w := by
  unfold Abs.mixOp
  simp only [hi]
  rcases hy with (⟨hw, hv⟩ | ⟨hw, rfl⟩) | ⟨hw, hc, hr⟩
  · rcases hc with hc | hc
    · rw [if_pos ⟨hw, hc⟩]; exact ⟨v, hv w hJ, h⟩
    · rw [hw] at hc; cases hc
  · rw [if_neg (by simp [hw])]
    unfold wpOp
    simp only [hi, hw, Bool.false_eq_true, if_false]
    exact ⟨hJ, h⟩
  · rw [if_pos ⟨hw, hc⟩]; exact ⟨v, hr, h⟩
theorem wpOp_apart {ops : Array Oper} {Q : Exit → Act → World → Prop} {j : Nat} {oi oj : Oper} {v : Value} (hj : ops[j]? = some oj) (hap : oi.apart ops oj = true) (hsi : ∀ cs b, oi.op ≠ .select cs b) (hsj : ∀ cs b, oj.op ≠ .select cs b)
    (hQ : ∀ c a w, Q (.panic c) (a.put oi.dst v) w → Q (.panic c) a w) {K : Act → World → Prop} {a : Act} {w : World} (h : wpOp P ops Q j K (a.put oi.dst v) w) :
    wpOp P ops Q j (fun a' w' => Sees ops oi a a' ∧ K (a'.put oi.dst v) w') a w := by
  obtain ⟨h1, h2, h3⟩ := Oper.apart_spec hap
  have eJ := execOp_put oj hsj a oi.dst v h1
  have sees : ∀ u, Sees ops oi a (a.put oj.dst u) := fun u => ⟨execOp_put oi hsi a oj.dst u h3, wanted_put oi a oj.dst u h3⟩
  have back : ∀ u w', K ((a.put oi.dst v).put oj.dst u) w' → Sees ops oi a (a.put oj.dst u) ∧ K ((a.put oj.dst u).put oi.dst v) w' := fun u w' hk => ⟨sees u, by rw [← Act.put_comm a v u h2]; exact hk⟩
  unfold wpOp at h ⊢
  simp only [hj] at h ⊢
  rw [wanted_put oj a oi.dst v h1] at h
  by_cases hw : Region.wanted oj (yielded ops a.tmps) = true
  · rw [if_pos hw] at h ⊢
    unfold Oper.asks Oper.wp at *
    rw [eJ] at h
    refine h.imp (fun h => ?_) id
    cases hr : (execOp a.eval oj).run P w with
    | halt x w' =>
      rw [hr] at h
      cases x <;> first | exact hQ _ _ _ h | exact h
    | ok n w' =>
      rw [hr] at h
      cases n with
      | value u => exact back u w' h
      | skip => exact back _ w' h
      | defer d =>
        have k : ({ a.put oi.dst v with defers := d :: (a.put oi.dst v).defers } : Act) = ({ a with defers := d :: a.defers } : Act).put oi.dst v := Act.put_defers a oi.dst v d
        simp only [Oper.upon] at h ⊢
        rw [k, Act.put_comm _ v undef h2] at h
        refine ⟨?_, h⟩
        have := sees undef
        cases hd : oj.dst <;> rw [hd] at this <;> exact this
      | enter f args => exact Calls.mono h fun e w'' he => by cases e with
        | returned u => exact back u w'' he
        | panicked c => exact hQ _ _ _ he
        | outgrown => exact he
      | row r args => exact Rows.mono h fun u w'' he => back u w'' he
      | _ => exact h
  · rw [if_neg hw] at h ⊢
    exact back _ w h
def Closed (ops : Array Oper) (listed : Array Bool) : Prop := ∀ (k : Nat) (ok : Oper), ops[k]? = some ok → listed.getD k false = true → ∀ e ∈ ok.after, Region.binds .any e = true → listed.getD e.on false = true
theorem Closed.set {ops : Array Oper} {listed : Array Bool} {i : Nat} (h : Closed ops listed) (hi : i ∈ Region.ready .any ops listed) : Closed ops (listed.setIfInBounds i true) := by
  obtain ⟨_, oi, hoi, hall⟩ := mem_ready.1 hi
  intro k ok hk hl e he hb
  by_cases hik : i = k
  · subst hik
    have : ok = oi := Option.some.inj (hk.symm.trans hoi)
    subst this
    exact getD_set_true (hall e he hb)
  · rw [getD_set_ne false hik] at hl
    exact getD_set_true (h k ok hk hl e he hb)
def waitsT (ops : Array Oper) (i : Nat) : Nat → Nat → Bool
  | 0, _ => false
  | n + 1, j => match ops[j]? with
    | some oj => oj.after.any fun e => Region.binds .any e && (e.on == i || waitsT ops i n e.on)
    | none => false
theorem waitsT_spec {ops : Array Oper} {listed : Array Bool} {i : Nat} (hc : Closed ops listed) (hi : listed.getD i false = false) : ∀ (n j : Nat) (oj : Oper), ops[j]? = some oj → waitsT ops i n j = true → ¬ ∀ e ∈ oj.after, Region.binds .any e = true → listed.getD e.on false = true
  | 0, j, oj, hj, h => by simp [waitsT] at h
  | n + 1, j, oj, hj, h => by
    intro hall
    simp only [waitsT, hj] at h
    obtain ⟨e, he, hb⟩ := Array.any_eq_true'.1 h
    simp only [Bool.and_eq_true, Bool.or_eq_true, beq_iff_eq] at hb
    obtain ⟨hb, hon | hw⟩ := hb
    · have := hall e he hb
      rw [hon, hi] at this; cases this
    · have hl := hall e he hb
      cases ho : ops[e.on]? with
      | none => cases n <;> simp [waitsT, ho] at hw
      | some ok => exact waitsT_spec hc hi n e.on ok ho hw (hc e.on ok ho hl)
theorem mix_first {J : World → Prop} {ops : Array Oper} {Q : Exit → Act → World → Prop} {i : Nat} {oi : Oper} {v : Value} (hi : ops[i]? = some oi) (hsel : ∀ (j : Nat) (o : Oper) cs b, ops[j]? = some o → o.op ≠ .select cs b)
    (hQ : ∀ c a w, Q (.panic c) (a.put oi.dst v) w → Q (.panic c) a w) :
    ∀ (f : Nat) (listed : Array Bool) (a : Act) (w : World),
      (∀ j oj, ops[j]? = some oj → j ≠ i → listed.getD j true = false → (∀ e ∈ oj.after, Region.binds .any e = true → e.on ≠ i) → oi.apart ops oj = true ∧ (YJ P J ops oi v a ∨ cls T oj.op ≤ 1 ∨ waitsT ops i ops.size j = true)) → Closed ops listed →
      i ∈ Region.ready .any ops listed → J w → (cls T oi.op ≤ 1 ∨ Region.wanted oi (yielded ops a.tmps) = false) → YMix P T J ops oi v a w →
      wpMix P T J ops Q f (listed.setIfInBounds i true) (a.put oi.dst v) w → wpMix P T J ops Q (f + 1) listed a w := by
  intro f
  induction f with
  | zero =>
    intro listed a w _ _ hr hJ hc1 hy H
    refine ⟨fun h => (by rw [h] at hr; cases hr), fun j hj => ?_⟩
    by_cases hji : j = i
    · subst hji; exact hy.mixOp hi hJ hc1 H
    · have := ready_mono hj hji
      rw [H.1] at this
      cases this
  | succ f ih =>
    intro listed a w hfree hclosed hr hJ hc1 hy H
    refine ⟨fun h => (by rw [h] at hr; cases hr), fun j hj => ?_⟩
    by_cases hji : j = i
    · subst hji; exact hy.mixOp hi hJ hc1 H
    · have h1 := H.2 j (ready_mono hj hji)
      obtain ⟨hjun, oj, hoj, hall⟩ := mem_ready.1 hj
      have hnot : ∀ e ∈ oj.after, Region.binds .any e = true → e.on ≠ i := fun e he hb heq => by
        have h1 := hall e he hb
        have h0 := (mem_ready.1 hr).1
        rw [heq] at h1
        rcases Nat.lt_or_ge i listed.size with h' | h'
        · simp [h'] at h0 h1; rw [h0] at h1; cases h1
        · simp [Array.getElem?_eq_none h'] at h1
      obtain ⟨hap, hcl⟩ := hfree j oj hoj hji hjun hnot
      have hcl : YJ P J ops oi v a ∨ cls T oj.op ≤ 1 := by
        rcases hcl with h | h | h
        · exact .inl h
        · exact .inr h
        · refine absurd hall (waitsT_spec hclosed ?_ _ j oj hoj h)
          have h0 := (mem_ready.1 hr).1
          rcases Nat.lt_or_ge i listed.size with h' | h'
          · simp [h'] at h0 ⊢; exact h0
          · simp [Array.getElem?_eq_none h']
      obtain ⟨p1, p2, p3⟩ := Oper.apart_spec hap
      have hsi := fun cs b => hsel i oi cs b hi
      have hsj := fun cs b => hsel j oj cs b hoj
      have sameJ : execOp (a.put oi.dst v).eval oj = execOp a.eval oj := execOp_put oj hsj a oi.dst v p1
      have wantJ : Region.wanted oj (yielded ops (a.put oi.dst v).tmps) = Region.wanted oj (yielded ops a.tmps) := wanted_put oj a oi.dst v p1
      have sees : ∀ u, Sees ops oi a (a.put oj.dst u) := fun u => ⟨execOp_put oi hsi a oj.dst u p3, wanted_put oi a oj.dst u p3⟩
      have hun' : ∀ {k : Nat}, (listed.setIfInBounds j true).getD k true = false → listed.getD k true = false := fun {k} hun => by
        by_cases hjk : j = k
        · subst hjk; exact hjun
        · rw [getD_set_ne true hjk] at hun; exact hun
      -- the rest, once j has come up in the same world
      have go : ∀ u, wpMix P T J ops Q f ((listed.setIfInBounds i true).setIfInBounds j true) ((a.put oi.dst v).put oj.dst u) w → wpMix P T J ops Q (f + 1) (listed.setIfInBounds j true) (a.put oj.dst u) w := fun u hu => by
        refine ih (listed.setIfInBounds j true) (a.put oj.dst u) w ?_ (hclosed.set hj) (ready_mono hr (Ne.symm hji)) hJ (hc1.imp id fun h => by rw [(sees u).2]; exact h) ?_ ?_
        · intro k ok hk hki hun hno
          obtain ⟨q1, q2⟩ := hfree k ok hk hki (hun' hun) hno
          exact ⟨q1, q2.imp (fun h => h.of_sees (sees u)) id⟩
        · rcases hy with hy | ⟨q1, q2, q3⟩
          · exact .inl (hy.of_sees (sees u))
          · exact .inr ⟨by rw [(sees u).2]; exact q1, q2, by rw [(sees u).1]; exact q3⟩
        · rw [Array.setIfInBounds_comm _ _ hji, ← Act.put_comm a v u p2]; exact hu
      unfold mixOp at h1 ⊢
      simp only [hoj] at h1 ⊢
      rw [wantJ] at h1
      by_cases hw : Region.wanted oj (yielded ops a.tmps) = true ∧ cls T oj.op ≤ 1
      · rw [if_pos hw] at h1 ⊢
        obtain ⟨u, hu, hn⟩ := h1
        rw [sameJ] at hu
        exact ⟨u, hu, go u hn⟩
      · rw [if_neg hw] at h1 ⊢
        by_cases hwj : Region.wanted oj (yielded ops a.tmps) = true
        · -- it does more than read: then i yields the same at any time
          have hy' : YJ P J ops oi v a := hcl.resolve_right (fun h => hw ⟨hwj, h⟩)
          have h2 := wpOp_apart hoj hap hsi hsj hQ h1
          refine wpOp_mono (fun a' w' h3 => ?_) h2
          obtain ⟨h3, hJ', h4⟩ := h3
          have hy3 := hy'.of_sees h3
          refine ⟨hJ', ih (listed.setIfInBounds j true) a' w' ?_ (hclosed.set hj) (ready_mono hr (Ne.symm hji)) hJ' (hc1.imp id fun h => by rw [h3.2]; exact h) (.inl hy3) ?_⟩
          · intro k ok hk hki hun hno
            exact ⟨(hfree k ok hk hki (hun' hun) hno).1, .inl hy3⟩
          · rw [Array.setIfInBounds_comm _ _ hji]; exact h4
        · -- it does not come up
          unfold wpOp at h1 ⊢
          simp only [hoj] at h1 ⊢
          rw [if_neg (by rw [wantJ]; exact hwj)] at h1
          rw [if_neg hwj]
          exact ⟨h1.1, go undef h1.2⟩
def quietB (T : TT) (ops : Array Oper) (listed : Array Bool) (i : Nat) : Bool :=
  (List.range ops.size).all fun j => j == i || listed.getD j true || match ops[j]? with
    | some oj => oj.after.any (fun e => Region.binds .any e && e.on == i) || Nat.ble (cls T oj.op) 1 || waitsT ops i ops.size j
    | none => true
def linOK (T : TT) (ops : Array Oper) : Array Bool → List Nat → Bool
  | listed, [] => (Region.ready .any ops listed).isEmpty
  | listed, i :: r => (Region.ready .any ops listed).contains i &&
      ((match ops[i]? with | some o => Region.free .any ops listed i && (Nat.beq (cls T o.op) 0 || (Nat.beq (cls T o.op) 1 && quietB T ops listed i)) | none => false) || (Region.ready .any ops listed == [i])) &&
      linOK T ops (listed.setIfInBounds i true) r
theorem quietB_spec {ops : Array Oper} {listed : Array Bool} {i : Nat} (h : quietB T ops listed i = true) (j : Nat) (oj : Oper) (hj : ops[j]? = some oj) (hne : j ≠ i) (hun : listed.getD j true = false)
    (hno : ∀ e ∈ oj.after, Region.binds .any e = true → e.on ≠ i) : cls T oj.op ≤ 1 ∨ waitsT ops i ops.size j = true := by
  simp only [quietB, List.all_eq_true, List.mem_range] at h
  have h1 := h j (Array.getElem?_eq_some_iff.1 hj).1
  simp only [hj, Bool.or_eq_true, beq_iff_eq, hne, false_or, hun, Bool.false_eq_true] at h1
  rcases h1 with (h1 | h1) | h1
  · obtain ⟨e, he, hb⟩ := Array.any_eq_true'.1 h1
    simp only [Bool.and_eq_true, beq_iff_eq] at hb
    exact absurd hb.2 (hno e he hb.1)
  · exact .inl (Nat.le_of_ble_eq_true h1)
  · exact .inr h1
def wpOrd (P : Program) (G : Globs) (T : TT) (l0 : List Oper) (K : Env → AHeap → Prop) (KP : AV → AHeap → Prop) : List Nat → Env → AHeap → Prop
  | [], e, s => K e s
  | i :: rest, e, s => nthO l0 i fun o => stepW P G T l0 o e s (fun e' s' => wpOrd P G T l0 K KP rest e' s') KP
theorem wpOrd_ok {l0 : List Oper} (hT : TOk P T) (hsel : Region.noSelect l0.toArray = true) {D : Ctx} : ∀ {r : List Nat} {listed : Array Bool} {C : Ctx} {e : Env} {a : Act}, linOK T l0.toArray listed r = true → Closed l0.toArray listed → Fits G C0 ds C e a → Ext D C →
    wpOrd P G T l0 (Q .normal) (fun v s => Q (.panic v) [] s) r e C.s → wpMix P T D.keeps l0.toArray (APost G C0 ds Q) r.length listed a C.w
  | [], listed, C, e, a, hl, _, hf, hD, h => ⟨by simpa [linOK] using hl, C, rfl, hf.good, hf.ext, hf.defers, e, hf.rep, h⟩
  | i :: r, listed, C, e, a, hl, hcl, hf, hD, h => by
    simp only [linOK, Bool.and_eq_true] at hl
    obtain ⟨⟨hrd, hmov⟩, hl⟩ := hl
    have hrd : i ∈ Region.ready .any l0.toArray listed := by simpa using hrd
    obtain ⟨o, ho, hs⟩ := nthO_ok (show nthO l0 i _ from h)
    clear h
    have ho : l0.toArray[i]? = some o := by simpa using ho
    have hJ := hD.keeps (keeps_refl C)
    have hQ : ∀ v c a w, APost G C0 ds Q (.panic c) (a.put o.dst v) w → APost G C0 ds Q (.panic c) a w := fun v c a w => APost.put
    simp only [List.length_cons]
    rcases Bool.or_eq_true _ _ ▸ hmov with hmov | hone
    · -- it may be taken first
      simp only [ho, Bool.and_eq_true, Bool.or_eq_true] at hmov
      obtain ⟨hfree, hcls⟩ := hmov
      have hfr := Region.free_spec ho hfree
      rcases stepW_ok hT hf hs with ⟨hw, e', h1, h2⟩ | ⟨hw, hc, v, e', h1, h2, h3⟩ | ⟨hw, hc, v, e', h1, h2, h3⟩ | ⟨hw, hc, h1⟩
      · have hy : YJ P D.keeps l0.toArray o undef a := .inr ⟨hw, rfl⟩
        exact mix_first ho (Region.noSelect_spec hsel) (hQ undef) _ listed a C.w (fun j oj hj hne hun hno => ⟨hfr j oj hj hne hun hno, .inl hy⟩) hcl hrd hJ (.inr hw) (.inl hy) (wpOrd_ok hT hsel hl (hcl.set hrd) h1 hD h2)
      · have hy : YJ P D.keeps l0.toArray o v a := .inl ⟨hw, fun w _ => h1 w⟩
        exact mix_first ho (Region.noSelect_spec hsel) (hQ v) _ listed a C.w (fun j oj hj hne hun hno => ⟨hfr j oj hj hne hun hno, .inl hy⟩) hcl hrd hJ (.inl (by omega)) (.inl hy) (wpOrd_ok hT hsel hl (hcl.set hrd) h2 hD h3)
      · have hq : quietB T l0.toArray listed i = true := by
          rcases hcls with hcls | hcls
          · have := Nat.eq_of_beq_eq_true hcls; omega
          · exact hcls.2
        exact mix_first ho (Region.noSelect_spec hsel) (hQ v) _ listed a C.w (fun j oj hj hne hun hno => ⟨hfr j oj hj hne hun hno, .inr (quietB_spec hq j oj hj hne hun hno)⟩) hcl hrd hJ (.inl (by omega)) (.inr ⟨hw, by omega, h1⟩) (wpOrd_ok hT hsel hl (hcl.set hrd) h2 hD h3)
      · exfalso
        rcases hcls with hcls | hcls
        · have := Nat.eq_of_beq_eq_true hcls; omega
        · have := Nat.eq_of_beq_eq_true hcls.1; omega
    · -- nothing else may come up
      have hone : Region.ready .any l0.toArray listed = [i] := by simpa using hone
      refine ⟨fun h0 => (by rw [h0] at hrd; cases hrd), fun j hj => ?_⟩
      rw [hone] at hj
      have hji : j = i := by simpa using hj
      subst hji
      unfold mixOp
      simp only [ho]
      rcases stepW_ok hT hf hs with ⟨hw, e', h1, h2⟩ | ⟨hw, hc, v, e', h1, h2, h3⟩ | ⟨hw, hc, v, e', h1, h2, h3⟩ | ⟨hw, hc, h1⟩
      · rw [if_neg (by simp [hw])]
        unfold wpOp
        simp only [ho]
        rw [if_neg (by simp [hw])]
        exact ⟨hJ, wpOrd_ok hT hsel hl (hcl.set hrd) h1 hD h2⟩
      · rw [if_pos ⟨hw, by omega⟩]; exact ⟨v, h1 _, wpOrd_ok hT hsel hl (hcl.set hrd) h2 hD h3⟩
      · rw [if_pos ⟨hw, by omega⟩]; exact ⟨v, h1, wpOrd_ok hT hsel hl (hcl.set hrd) h2 hD h3⟩
      · rw [if_neg (by omega)]
        unfold wpOp
        simp only [ho, hw, if_true]
        exact .inl (h1 _ fun C' e' a' h2 hE h3 => ⟨(hD.trans hE).keeps (keeps_refl C'), wpOrd_ok hT hsel hl (hcl.set hrd) h2 (hD.trans hE) h3⟩)
/-! ### Orders that part -/
mutual
inductive Plan where
  | done
  | take (i : Nat) (p : Plan)
  | takeF (i : Nat) (p : Plan)
  | fork (ps : Plans)
inductive Plans where
  | nil
  | cons (i : Nat) (p : Plan) (ps : Plans)
end
def movOK (T : TT) (ops : Array Oper) (listed : Array Bool) (i : Nat) : Bool :=
  (match ops[i]? with | some o => Region.free .any ops listed i && (Nat.beq (cls T o.op) 0 || (Nat.beq (cls T o.op) 1 && quietB T ops listed i)) | none => false) || (Region.ready .any ops listed == [i])
mutual
def planOK (T : TT) (ops : Array Oper) : Nat → Array Bool → Plan → Bool
  | 0, listed, .done => (Region.ready .any ops listed).isEmpty
  | n + 1, listed, .take i p => (Region.ready .any ops listed).contains i && movOK T ops listed i && planOK T ops n (listed.setIfInBounds i true) p
  | n + 1, listed, .takeF i p => (Region.ready .any ops listed).contains i && Region.free .any ops listed i && planOK T ops n (listed.setIfInBounds i true) p
  | n + 1, listed, .fork ps => !(Region.ready .any ops listed).isEmpty && planOKL T ops n listed (Region.ready .any ops listed) ps
  | _, _, _ => false
def planOKL (T : TT) (ops : Array Oper) : Nat → Array Bool → List Nat → Plans → Bool
  | n, listed, r :: rs, .cons i p ps => Nat.beq r i && planOK T ops n (listed.setIfInBounds i true) p && planOKL T ops n listed rs ps
  | _, _, [], .nil => true
  | _, _, _, _ => false
end
def frzK (G : Globs) (o : Oper) (e : Env) : Prop := match o.op with
  | .load _ x => evK G e x fun a => match a with | .fptr _ => True | _ => False
  | _ => False
mutual
def wpPlan (P : Program) (G : Globs) (T : TT) (l0 : List Oper) (K : Env → AHeap → Prop) (KP : AV → AHeap → Prop) : Plan → Env → AHeap → Prop
  | .done, e, s => K e s
  | .take i p, e, s => nthO l0 i fun o => stepW P G T l0 o e s (fun e' s' => wpPlan P G T l0 K KP p e' s') KP
  | .takeF i p, e, s => nthO l0 i fun o => frzK G o e ∧ stepW P G T l0 o e s (fun e' s' => wpPlan P G T l0 K KP p e' s') KP
  | .fork ps, e, s => wpPlans P G T l0 K KP ps e s
def wpPlans (P : Program) (G : Globs) (T : TT) (l0 : List Oper) (K : Env → AHeap → Prop) (KP : AV → AHeap → Prop) : Plans → Env → AHeap → Prop
  | .nil, _, _ => True
  | .cons i p ps, e, s => (nthO l0 i fun o => stepW P G T l0 o e s (fun e' s' => wpPlan P G T l0 K KP p e' s') KP) ∧ wpPlans P G T l0 K KP ps e s
end
theorem frz_step {l : List Oper} {o : Oper} {e : Env} {a : Act} {R : Env → AHeap → Prop} (hT : TOk P T) (hf : Fits G C0 ds C e a) (hz : frzK G o e) (h : stepW P G T l o e C.s R fun v s => Q (.panic v) [] s) :
    (cls T o.op ≤ 1) ∧ ∃ v e', YJ P C.keeps l.toArray o v a ∧ Fits G C0 ds C e' (a.put o.dst v) ∧ R e' C.s := by
  obtain ⟨dst, op, ty, pos, after, guard⟩ := o
  unfold frzK at hz
  split at hz
  · rename_i t x hop
    dsimp only at hop
    subst hop
    refine ⟨by simp [cls], ?_⟩
    rcases guardK_ok hf.rep h with ⟨hw, h⟩ | ⟨hw, h⟩
    · obtain ⟨av, h1, h2, h3⟩ : ∃ av, RepV C av (a.eval x) ∧ (match av with | .fptr _ => True | _ => False : Prop) ∧ loadW T t C.s av fun v => putK e dst v fun e' => R e' C.s := by
        have hb : evK G e x fun a => (match a with | .fptr _ => True | _ => False : Prop) ∧ loadW T t C.s a fun v => putK e dst v fun e' => R e' C.s := by
          have h : evK G e x fun a => loadW T t C.s a fun v => putK e dst v fun e' => R e' C.s := h
          exact evK_and hz h
        obtain ⟨av, k1, k2⟩ := evK_ok hf.good hf.rep hb
        exact ⟨av, k1, k2.1, k2.2⟩
      split at h2
      · rename_i cs
        have h3 : cellsK T t cs fun v => putK e dst v fun e' => R e' C.s := h3
        obtain ⟨bv, r, k1, k2, k3⟩ := loadF_ok (P := P) hT h1 h3
        rw [putK_eq] at k3
        refine ⟨r, _, .inl ⟨hw, fun w hk => ?_⟩, ⟨hf.good, rep_put hf.rep k2, by rw [put_defers']; exact hf.defers, hf.ext⟩, k3⟩
        simp only [execOp, Sem.run_bind, k1 w hk]; rfl
      · exact h2.elim
    · rw [putK_eq] at h
      exact ⟨undef, _, .inr ⟨hw, rfl⟩, ⟨hf.good, rep_put hf.rep (undef_rep C), by rw [put_defers']; exact hf.defers, hf.ext⟩, h⟩
  · exact hz.elim
theorem wpPlan_ok {l0 : List Oper} (hT : TOk P T) (hsel : Region.noSelect l0.toArray = true) : ∀ (n : Nat) (p : Plan) {listed : Array Bool} {C : Ctx} {e : Env} {a : Act}, planOK T l0.toArray n listed p = true → Closed l0.toArray listed → Fits G C0 ds C e a →
    wpPlan P G T l0 (Q .normal) (fun v s => Q (.panic v) [] s) p e C.s → ∀ D, Ext D C → wpMix P T D.keeps l0.toArray (APost G C0 ds Q) n listed a C.w := by
  intro n
  induction n with
  | zero =>
    intro p listed C e a hl hcl hf h D hD
    cases p with
    | done => exact ⟨by simpa [planOK] using hl, C, rfl, hf.good, hf.ext, hf.defers, e, hf.rep, h⟩
    | take i p => simp [planOK] at hl
    | takeF i p => simp [planOK] at hl
    | fork ps => simp [planOK] at hl
  | succ n ih =>
    intro p listed C e a hl hcl hf h D hD
    have hJ := hD.keeps (keeps_refl C)
    -- one step, and what follows
    have one : ∀ (i : Nat) (q : Plan), i ∈ Region.ready .any l0.toArray listed → planOK T l0.toArray n (listed.setIfInBounds i true) q = true →
        (nthO l0 i fun o => stepW P G T l0 o e C.s (fun e' s' => wpPlan P G T l0 (Q .normal) (fun v s => Q (.panic v) [] s) q e' s') (fun v s => Q (.panic v) [] s)) →
        mixOp P T D.keeps l0.toArray (APost G C0 ds Q) i (wpMix P T D.keeps l0.toArray (APost G C0 ds Q) n (listed.setIfInBounds i true)) a C.w := by
      intro i q hrd hq hs
      obtain ⟨o, ho, hs⟩ := nthO_ok hs
      have ho : l0.toArray[i]? = some o := by simpa using ho
      unfold mixOp
      simp only [ho]
      rcases stepW_ok hT hf hs with ⟨hw, e', h1, h2⟩ | ⟨hw, hc, v, e', h1, h2, h3⟩ | ⟨hw, hc, v, e', h1, h2, h3⟩ | ⟨hw, hc, h1⟩
      · rw [if_neg (by simp [hw])]
        unfold wpOp
        simp only [ho]
        rw [if_neg (by simp [hw])]
        exact ⟨hJ, ih q hq (hcl.set hrd) h1 h2 D hD⟩
      · rw [if_pos ⟨hw, by omega⟩]; exact ⟨v, h1 _, ih q hq (hcl.set hrd) h2 h3 D hD⟩
      · rw [if_pos ⟨hw, by omega⟩]; exact ⟨v, h1, ih q hq (hcl.set hrd) h2 h3 D hD⟩
      · rw [if_neg (by omega)]
        unfold wpOp
        simp only [ho, hw, if_true]
        exact .inl (h1 _ fun C' e' a' h2 hE h3 => ⟨(hD.trans hE).keeps (keeps_refl C'), ih q hq (hcl.set hrd) h2 h3 D (hD.trans hE)⟩)
    have hQ : ∀ v (o : Oper) c a w, APost G C0 ds Q (.panic c) (a.put o.dst v) w → APost G C0 ds Q (.panic c) a w := fun v o c a w => APost.put
    cases p with
    | done => simp [planOK] at hl
    | takeF i p =>
      simp only [planOK, Bool.and_eq_true] at hl
      obtain ⟨⟨hrd, hfree⟩, hl⟩ := hl
      have hrd : i ∈ Region.ready .any l0.toArray listed := by simpa using hrd
      have h : nthO l0 i fun o => frzK G o e ∧ stepW P G T l0 o e C.s (fun e' s' => wpPlan P G T l0 (Q .normal) (fun v s => Q (.panic v) [] s) p e' s') (fun v s => Q (.panic v) [] s) := by simpa only [wpPlan] using h
      obtain ⟨o, ho, hz, hs⟩ := nthO_ok h
      have ho : l0.toArray[i]? = some o := by simpa using ho
      have hfr := Region.free_spec ho hfree
      obtain ⟨hc, v, e', hy, h1, h2⟩ := frz_step hT hf hz hs
      exact wpMix_mono (fun w => hD.keeps) _ _ _ _ (mix_first ho (Region.noSelect_spec hsel) (hQ v o) _ listed a C.w (fun j oj hj hne hun hno => ⟨hfr j oj hj hne hun hno, .inl hy⟩) hcl hrd (keeps_refl C) (.inl hc) (.inl hy) (ih p hl (hcl.set hrd) h1 h2 C (Ext.refl C)))
    | take i p =>
      simp only [planOK, Bool.and_eq_true] at hl
      obtain ⟨⟨hrd, hmov⟩, hl⟩ := hl
      have hrd : i ∈ Region.ready .any l0.toArray listed := by simpa using hrd
      have h : nthO l0 i fun o => stepW P G T l0 o e C.s (fun e' s' => wpPlan P G T l0 (Q .normal) (fun v s => Q (.panic v) [] s) p e' s') (fun v s => Q (.panic v) [] s) := by simpa only [wpPlan] using h
      unfold movOK at hmov
      rcases Bool.or_eq_true _ _ ▸ hmov with hmov | hone
      · obtain ⟨o, ho, hs⟩ := nthO_ok h
        have ho : l0.toArray[i]? = some o := by simpa using ho
        simp only [ho, Bool.and_eq_true, Bool.or_eq_true] at hmov
        obtain ⟨hfree, hcls⟩ := hmov
        have hfr := Region.free_spec ho hfree
        rcases stepW_ok hT hf hs with ⟨hw, e', h1, h2⟩ | ⟨hw, hc, v, e', h1, h2, h3⟩ | ⟨hw, hc, v, e', h1, h2, h3⟩ | ⟨hw, hc, h1⟩
        · have hy : YJ P D.keeps l0.toArray o undef a := .inr ⟨hw, rfl⟩
          exact mix_first ho (Region.noSelect_spec hsel) (hQ undef o) _ listed a C.w (fun j oj hj hne hun hno => ⟨hfr j oj hj hne hun hno, .inl hy⟩) hcl hrd hJ (.inr hw) (.inl hy) (ih p hl (hcl.set hrd) h1 h2 D hD)
        · have hy : YJ P D.keeps l0.toArray o v a := .inl ⟨hw, fun w _ => h1 w⟩
          exact mix_first ho (Region.noSelect_spec hsel) (hQ v o) _ listed a C.w (fun j oj hj hne hun hno => ⟨hfr j oj hj hne hun hno, .inl hy⟩) hcl hrd hJ (.inl (by omega)) (.inl hy) (ih p hl (hcl.set hrd) h2 h3 D hD)
        · have hq : quietB T l0.toArray listed i = true := by
            rcases hcls with hcls | hcls
            · have := Nat.eq_of_beq_eq_true hcls; omega
            · exact hcls.2
          exact mix_first ho (Region.noSelect_spec hsel) (hQ v o) _ listed a C.w (fun j oj hj hne hun hno => ⟨hfr j oj hj hne hun hno, .inr (quietB_spec hq j oj hj hne hun hno)⟩) hcl hrd hJ (.inl (by omega)) (.inr ⟨hw, by omega, h1⟩) (ih p hl (hcl.set hrd) h2 h3 D hD)
        · exfalso
          rcases hcls with hcls | hcls
          · have := Nat.eq_of_beq_eq_true hcls; omega
          · have := Nat.eq_of_beq_eq_true hcls.1; omega
      · have hone : Region.ready .any l0.toArray listed = [i] := by simpa using hone
        refine ⟨fun h0 => (by rw [h0] at hrd; cases hrd), fun j hj => ?_⟩
        rw [hone] at hj
        have hji : j = i := by simpa using hj
        subst hji
        exact one j p hrd hl h
    | fork ps =>
      simp only [planOK, Bool.and_eq_true] at hl
      obtain ⟨hne, hl⟩ := hl
      have h : wpPlans P G T l0 (Q .normal) (fun v s => Q (.panic v) [] s) ps e C.s := by simpa only [wpPlan] using h
      have key : ∀ (rs : List Nat) (ps : Plans), (∀ r ∈ rs, r ∈ Region.ready .any l0.toArray listed) → planOKL T l0.toArray n listed rs ps = true → wpPlans P G T l0 (Q .normal) (fun v s => Q (.panic v) [] s) ps e C.s →
          ∀ j ∈ rs, mixOp P T D.keeps l0.toArray (APost G C0 ds Q) j (wpMix P T D.keeps l0.toArray (APost G C0 ds Q) n (listed.setIfInBounds j true)) a C.w := by
        intro rs
        induction rs with
        | nil => intro ps _ _ _ j hj; cases hj
        | cons r rs ihr =>
          intro ps hsub hl h j hj
          cases ps with
          | nil => simp [planOKL] at hl
          | cons i p ps =>
            simp only [planOKL, Bool.and_eq_true] at hl
            obtain ⟨⟨hri, hl1⟩, hl2⟩ := hl
            have hri := Nat.eq_of_beq_eq_true hri
            subst hri
            simp only [wpPlans] at h
            rcases List.mem_cons.1 hj with rfl | hj
            · exact one j p (hsub j (by simp)) hl1 h.1
            · exact ihr ps (fun r hr => hsub r (by simp [hr])) hl2 h.2 j hj
      refine ⟨fun h0 => (by rw [h0] at hne; simp at hne), fun j hj => key _ ps (fun r hr => hr) hl h j hj⟩
end
end Go.Abs
/- Code, loops, functions. -/
namespace Go.Abs
open Go
section
variable (P : Program) (G : Globs) (T : TT)
def AC (c : Code) (Q : AQ) (e : Env) (s : AHeap) : Prop := ∀ ds C0 C a, Fits G C0 ds C e a → C.s = s → c.wp P (APost G C0 ds Q) a C.w
def thenQ (K : Env → AHeap → Prop) (Q : AQ) : AQ := fun x e s => match x with
  | .normal => K e s
  | .exit i => Q (.exit i) e s
  | .goto l => Q (.goto l) e s
  | .ret => Q .ret e s
  | .panic v => Q (.panic v) e s
def blockQ (id : Nat) (Q : AQ) : AQ := fun x e s => match x with
  | .normal => Q .normal e s
  | .exit i => match Nat.beq i id with
    | true => Q .normal e s
    | false => Q (.exit i) e s
  | .goto l => Q (.goto l) e s
  | .ret => Q .ret e s
  | .panic v => Q (.panic v) e s
def DrawW (ops : List Oper) (K : Env → AHeap → Prop) (KP : AV → AHeap → Prop) (e : Env) (s : AHeap) : Prop :=
  (∃ order, linOK T ops.toArray (Array.replicate ops.length false) order = true ∧ Region.noSelect ops.toArray = true ∧ order.length = ops.length ∧ wpOrd P G T ops K KP order e s) ∨
  (∃ p, planOK T ops.toArray ops.length (Array.replicate ops.length false) p = true ∧ Region.noSelect ops.toArray = true ∧ wpPlan P G T ops K KP p e s)
def wpc : Code → AQ → Env → AHeap → Prop
  | .skip, Q, e, s => Q .normal e s
  | .label _, Q, e, s => Q .normal e s
  | .region _ ops draw, Q, e, s => match draw with
    | false => wpo P G T ops.toList (Q .normal) (fun v s => Q (.panic v) [] s) ops.toList e s
    | true => DrawW P G T ops.toList (Q .normal) (fun v s => Q (.panic v) [] s) e s
  | .seq a b, Q, e, s => wpc a (thenQ (fun e s => wpc b Q e s) Q) e s
  | .cond c a b, Q, e, s => evK G e c fun v => match v with
    | .bool t => (t = true → wpc a Q e s) ∧ (t = false → wpc b Q e s)
    | _ => False
  | .block id b, Q, e, s => wpc b (blockQ id Q) e s
  | .exit id, Q, e, s => Q (.exit id) e s
  | .ret, Q, e, s => Q .ret e s
  | .loop b, Q, e, s => AC P G (.loop b) Q e s
  | .goto l, Q, e, s => AC P G (.goto l) Q e s
  | .rangeFunc f ps x b, Q, e, s => AC P G (.rangeFunc f ps x b) Q e s
  | .scope b, Q, e, s => AC P G (.scope b) Q e s
  | .refuse w, Q, e, s => AC P G (.refuse w) Q e s
structure Tab : Prop where
  types : TOk P T
  mixed : P.follows .mixedOrders = true
variable {P G T}
theorem fits_drew {C0 C : Ctx} {ds : List Deferred} {e : Env} {a : Act} (h : Fits G C0 ds C e a) : Fits G C0 ds (C.inW { C.w with drawn := C.w.drawn + 1 }) e a := by
  have he : Ext C (C.inW { C.w with drawn := C.w.drawn + 1 }) := ext_inW rfl rfl rfl rfl
  exact ⟨good_inW h.good rfl rfl rfl rfl, RepL.ext he _ _ h.rep, h.defers, h.ext.trans he⟩
theorem wpc_ok (hP : Tab P T) : ∀ (c : Code) (Q : AQ) (e : Env) (s : AHeap), wpc P G T c Q e s → AC P G c Q e s
  | .skip, Q, e, s, h => fun ds C0 C a hf hs => wp_skip ⟨C, rfl, hf.good, hf.ext, hf.defers, e, hf.rep, by rw [hs]; exact h⟩
  | .label _, Q, e, s, h => fun ds C0 C a hf hs => wp_label ⟨C, rfl, hf.good, hf.ext, hf.defers, e, hf.rep, by rw [hs]; exact h⟩
  | .exit id, Q, e, s, h => fun ds C0 C a hf hs => wp_exit ⟨C, rfl, hf.good, hf.ext, hf.defers, e, hf.rep, by rw [hs]; exact h⟩
  | .ret, Q, e, s, h => fun ds C0 C a hf hs => wp_ret ⟨C, rfl, hf.good, hf.ext, hf.defers, e, hf.rep, by rw [hs]; exact h⟩
  | .region id ops false, Q, e, s, h => fun ds C0 C a hf hs => by
    subst hs
    have := wpo_ok (Q := Q) hP.types hf h
    exact wp_region_list (by simpa using this)
  | .region id ops true, Q, e, s, h => fun ds C0 C a hf hs => by
    subst hs
    have hm : wpMix P T (C.inW { C.w with drawn := C.w.drawn + 1 }).keeps ops.toList.toArray (APost G C0 ds Q) ops.toList.length (Array.replicate ops.toList.length false) a (C.inW { C.w with drawn := C.w.drawn + 1 }).w := by
      have hcl : Closed ops.toList.toArray (Array.replicate ops.toList.length false) := fun k ok _ hl => by rw [Array.getD_eq_getD_getElem?, Array.getElem?_replicate] at hl; split at hl <;> simp at hl
      rcases h with ⟨order, h1, h2, h3, h4⟩ | ⟨p, h1, h2, h3⟩
      · have hm := wpOrd_ok (Q := Q) hP.types h2 (C := C.inW { C.w with drawn := C.w.drawn + 1 }) h1 hcl (fits_drew hf) (Ext.refl _) h4
        rw [h3] at hm
        exact hm
      · exact wpPlan_ok (Q := Q) hP.types h2 _ p (C := C.inW { C.w with drawn := C.w.drawn + 1 }) h1 hcl (fits_drew hf) h3 _ (Ext.refl _)
    refine wp_region_any hP.mixed ?_
    have := wpAny_of_mix _ _ _ _ hm
    simpa [Ctx.inW] using this
  | .seq x y, Q, e, s, h => fun ds C0 C a hf hs => by
    have h1 := wpc_ok hP x _ e s h
    refine wp_seq (wp_mono (h1 ds C0 C a hf hs) ?_)
    rintro x' a' w' ⟨C', rfl, g1, g2, g3, g4⟩
    cases x' with
    | normal =>
      obtain ⟨e', g5, g6⟩ := g4
      exact wpc_ok hP y Q e' C'.s g6 ds C0 C' a' ⟨g1, g5, g3, g2⟩ rfl
    | exit id => exact ⟨C', rfl, g1, g2, g3, g4⟩
    | goto l => exact ⟨C', rfl, g1, g2, g3, g4⟩
    | ret => exact ⟨C', rfl, g1, g2, g3, g4⟩
    | panic c => exact ⟨C', rfl, g1, g2, g3, g4⟩
    | outgrown => exact ⟨C', rfl, g1, g2, g3, g4⟩
  | .cond c x y, Q, e, s, h => fun ds C0 C a hf hs => by
    subst hs
    obtain ⟨av, h1, h⟩ := evK_ok hf.good hf.rep (show evK G e c _ from h)
    split at h
    · rename_i t
      simp only [RepV, RepF] at h1
      refine wp_cond h1 ?_
      cases t
      · exact wpc_ok hP y Q e _ (h.2 rfl) ds C0 C a hf rfl
      · exact wpc_ok hP x Q e _ (h.1 rfl) ds C0 C a hf rfl
    · exact h.elim
  | .block id b, Q, e, s, h => fun ds C0 C a hf hs => by
    have h1 := wpc_ok hP b _ e s h
    refine wp_block (wp_mono (h1 ds C0 C a hf hs) ?_)
    rintro x' a' w' ⟨C', rfl, g1, g2, g3, g4⟩
    cases x' with
    | normal => exact ⟨C', rfl, g1, g2, g3, g4⟩
    | exit i =>
      obtain ⟨e', g5, g6⟩ := g4
      have g6 : (match Nat.beq i id with | true => Q .normal e' C'.s | false => Q (.exit i) e' C'.s : Prop) := g6
      by_cases hi : i = id
      · subst hi
        simp only [Nat.beq_refl] at g6
        simp only [Exit.inBlock, if_true]
        exact ⟨C', rfl, g1, g2, g3, e', g5, g6⟩
      · have hb : Nat.beq i id = false := by cases hq : Nat.beq i id with
          | true => exact absurd (Nat.eq_of_beq_eq_true hq) hi
          | false => rfl
        simp only [hb] at g6
        simp only [Exit.inBlock, hi, if_false]
        exact ⟨C', rfl, g1, g2, g3, e', g5, g6⟩
    | goto l => exact ⟨C', rfl, g1, g2, g3, g4⟩
    | ret => exact ⟨C', rfl, g1, g2, g3, g4⟩
    | panic c => exact ⟨C', rfl, g1, g2, g3, g4⟩
    | outgrown => exact ⟨C', rfl, g1, g2, g3, g4⟩
  | .loop b, Q, e, s, h => h
  | .goto l, Q, e, s, h => h
  | .rangeFunc f ps x b, Q, e, s, h => h
  | .scope b, Q, e, s, h => h
  | .refuse w, Q, e, s, h => h
theorem AC.loop (hP : Tab P T) {b : Code} {Q : AQ} {e : Env} {s : AHeap} (I : Nat → Env → AHeap → Prop) (n : Nat) (h0 : I n e s)
    (round : ∀ n e s, I n e s → wpc P G T b (thenQ (fun e' s' => ∃ m, m < n ∧ I m e' s') Q) e s) : AC P G (.loop b) Q e s := by
  intro ds C0 C a hf hs
  refine wp_loop_ghost (fun n a w => ∃ C e, Fits G C0 ds C e a ∧ C.w = w ∧ I n e C.s) n ⟨C, e, hf, rfl, by rw [hs]; exact h0⟩ ?_
  rintro n a w ⟨C, e, hf, rfl, hI⟩
  refine wp_mono (wpc_ok hP b _ e C.s (round n e C.s hI) ds C0 C a hf rfl) ?_
  rintro x' a' w' ⟨C', rfl, g1, g2, g3, g4⟩
  cases x' with
  | normal =>
    obtain ⟨e', g5, m, g6, g7⟩ := g4
    exact ⟨m, g6, C', e', ⟨g1, g5, g3, g2⟩, rfl, g7⟩
  | exit id => exact ⟨C', rfl, g1, g2, g3, g4⟩
  | goto l => exact ⟨C', rfl, g1, g2, g3, g4⟩
  | ret => exact ⟨C', rfl, g1, g2, g3, g4⟩
  | panic c => exact ⟨C', rfl, g1, g2, g3, g4⟩
  | outgrown => exact ⟨C', rfl, g1, g2, g3, g4⟩
/-! ### The same memory, seen otherwise -/
def Wk (G : Globs) (s : AHeap) (as : List AV) (s' : AHeap) (as' : List AV) : Prop :=
  ∀ C us, Good G C → C.s = s → RepL C as us → ∃ C', C'.w = C.w ∧ Good G C' ∧ Ext C C' ∧ C'.s = s' ∧ RepL C' as' us
theorem Wk.refl (s : AHeap) (as : List AV) : Wk G s as s as := fun C us hg hs hr => ⟨C, rfl, hg, Ext.refl C, hs, hr⟩
theorem Wk.trans {s s' s'' : AHeap} {as as' as'' : List AV} (h : Wk G s as s' as') (k : Wk G s' as' s'' as'') : Wk G s as s'' as'' := fun C us hg hs hr => by
  obtain ⟨C1, h1, h2, h3, h4, h5⟩ := h C us hg hs hr
  obtain ⟨C2, k1, k2, k3, k4, k5⟩ := k C1 us h2 h4 h5
  exact ⟨C2, k1.trans h1, k2, h3.trans k3, k4, k5⟩
theorem RepL.setV {C : Ctx} : ∀ {as : List AV} {us : List Value} {k : Nat} {a : AV}, RepL C as us → (∀ b u, as[k]? = some b → RepV C b u → RepV C a u) → RepL C (as.set k a) us
  | [], us, k, a, h, _ => by simpa using h
  | b :: as, us, k, a, h, hk => by
    simp only [RepL] at h
    obtain ⟨x, r, rfl, h1, h2⟩ := h
    cases k with
    | zero => simp only [List.set_cons_zero, RepL]; exact ⟨x, r, rfl, hk b x rfl h1, h2⟩
    | succ k => simp only [List.set_cons_succ, RepL]; exact ⟨x, r, rfl, h1, RepL.setV h2 fun b u hb hu => hk b u (by simpa using hb) hu⟩
theorem RepL.setV' {C C' : Ctx} (he : Ext C C') : ∀ {as : List AV} {us : List Value} {k : Nat} {a : AV}, RepL C as us → (∀ b u, as[k]? = some b → RepV C b u → RepV C' a u) → RepL C' (as.set k a) us
  | [], us, k, a, h, _ => by simpa [RepL] using h
  | b :: as, us, k, a, h, hk => by
    simp only [RepL] at h
    obtain ⟨x, r, rfl, h1, h2⟩ := h
    cases k with
    | zero => simp only [List.set_cons_zero, RepL]; exact ⟨x, r, rfl, hk b x rfl h1, RepL.ext he _ _ h2⟩
    | succ k => simp only [List.set_cons_succ, RepL]; exact ⟨x, r, rfl, RepV.ext he _ _ h1, RepL.setV' he h2 fun b u hb hu => hk b u (by simpa using hb) hu⟩
theorem Wk.row {s : AHeap} {as : List AV} {k i ver : Nat} {o : AObj} (hk : as[k]? = some (.sl i ver)) (ho : s[i]? = some (some o)) (hv : o.ver = ver) (hc : closedLL o.es = true) : Wk G s as (s.set i none) (as.set k (.fsl o.es)) := by
  intro C us hg hs hr
  subst hs
  refine ⟨C.free i, rfl, good_free hg i, ext_free i, rfl, RepL.setV' (ext_free i) hr fun b u hb hu => ?_⟩
  rw [hk] at hb
  simp only [Option.some.injEq] at hb
  subst hb
  exact RepV.freeze hg ho hv hc hu
theorem Wk.nil {s : AHeap} {as : List AV} {k : Nat} (hk : as[k]? = some .nils) : Wk G s as s (as.set k (.fsl [])) := by
  intro C us hg hs hr
  refine ⟨C, rfl, hg, Ext.refl C, hs, RepL.setV hr fun b u hb hu => ?_⟩
  rw [hk] at hb
  simp only [Option.some.injEq] at hb
  subst hb
  simp only [RepV, RepF] at hu ⊢
  subst hu
  exact ⟨none, 0, Nat.le_refl _, rfl, .inl (by simp)⟩
theorem Wk.take {s : AHeap} {as : List AV} (n : Nat) : Wk G s as (s.take n) as := fun C us hg hs hr => by
  subst hs
  exact ⟨C.cut n, rfl, good_cut hg n, ext_cut n, rfl, RepL.ext (ext_cut n) _ _ hr⟩
theorem Wk.agg {s s' : AHeap} {cs cs' as as' : List AV} (hl : cs'.length = cs.length) (h : Wk G s (cs ++ as) s' (cs' ++ as')) : Wk G s (.agg cs :: as) s' (.agg cs' :: as') := by
  intro C us hg hs hr
  simp only [RepL, RepV] at hr
  obtain ⟨u, r, rfl, ⟨us', rfl, h1⟩, h2⟩ := hr
  obtain ⟨C', g1, g2, g3, g4, g5⟩ := h C (us'.toList ++ r) hg hs (RepL.append h1 h2)
  refine ⟨C', g1, g2, g3, g4, ?_⟩
  have hlen := RepL.length h1
  have k1 := RepL.take g5 cs'.length
  have k2 := RepL.drop g5 cs'.length
  simp only [RepL, RepV]
  refine ⟨_, r, rfl, ⟨us', rfl, ?_⟩, ?_⟩
  · rw [List.take_left, hl, ← hlen, List.take_left] at k1; exact k1
  · rw [List.drop_left, hl, ← hlen, List.drop_left] at k2; exact k2
theorem Wk.tuple {s s' : AHeap} {cs cs' : List AV} (h : Wk G s cs s' cs') : Wk G s [.tuple cs] s' [.tuple cs'] := by
  intro C us hg hs hr
  simp only [RepL, RepV] at hr
  obtain ⟨u, r, rfl, ⟨us', rfl, h1⟩, h2⟩ := hr
  obtain ⟨C', g1, g2, g3, g4, g5⟩ := h C us'.toList hg hs h1
  refine ⟨C', g1, g2, g3, g4, ?_⟩
  subst h2
  simp only [RepL, RepV]
  exact ⟨_, [], rfl, ⟨us', rfl, g5⟩, rfl⟩
theorem Wk.cons {s s' : AHeap} {a : AV} {as as' : List AV} (h : Wk G s as s' as') : Wk G s (a :: as) s' (a :: as') := by
  intro C us hg hs hr
  simp only [RepL] at hr
  obtain ⟨u, r, rfl, h1, h2⟩ := hr
  obtain ⟨C', g1, g2, g3, g4, g5⟩ := h C r hg hs h2
  exact ⟨C', g1, g2, g3, g4, by simp only [RepL]; exact ⟨u, r, rfl, RepV.ext g3 _ _ h1, g5⟩⟩
theorem AC.wk {c : Code} {Q : AQ} {e e' : Env} {s s' : AHeap} (h : Wk G s e s' e') (k : AC P G c Q e' s') : AC P G c Q e s := by
  intro ds C0 C a hf hs
  obtain ⟨C', h1, h2, h3, h4, h5⟩ := h C _ hf.good hs hf.rep
  rw [← h1]
  exact k ds C0 C' a ⟨h2, h5, hf.defers, hf.ext.trans h3⟩ h4
/-! ### Functions -/
def RetW (G : Globs) (n : Nat) (Q : AEnd → AHeap → Prop) (r : AV) (s : AHeap) : Prop :=
  n ≤ s.length ∧ ∀ C u, Good G C → C.s = s → RepV C r u → ∃ r' C', C'.w = C.w ∧ Good G C' ∧ Ext C C' ∧ C'.s.length = s.length ∧ RepV C' r' u ∧ Q (.ret r') (C'.s.take n)
theorem RetW.plain {n : Nat} {Q : AEnd → AHeap → Prop} {r : AV} {s : AHeap} (hn : n ≤ s.length) (h : Q (.ret r) (s.take n)) : RetW G n Q r s :=
  ⟨hn, fun C u hg hs hr => ⟨r, C, rfl, hg, Ext.refl C, by rw [hs], hr, by rw [hs]; exact h⟩⟩
theorem RetW.wk {n : Nat} {Q : AEnd → AHeap → Prop} {r r' : AV} {s s' : AHeap} (hn : n ≤ s.length) (hl : s'.length = s.length) (hw : Wk G s [r] s' [r']) (h : Q (.ret r') (s'.take n)) : RetW G n Q r s :=
  ⟨hn, fun C u hg hs hr => by
    obtain ⟨D, d1, d2, d3, d4, d5⟩ := hw C [u] hg hs (by simp only [RepL]; exact ⟨u, [], rfl, hr, rfl⟩)
    simp only [RepL] at d5
    obtain ⟨v, r2, hu, h1, h2⟩ := d5
    have : v = u := by simpa using (List.cons.inj hu).1.symm
    subst this
    exact ⟨r', D, d1, d2, d3, by rw [d4, hl], h1, by rw [d4]; exact h⟩⟩
def resK (T : TT) (e : Env) (s : AHeap) : List ResultVar → (List AV → Prop) → Prop
  | [], k => k []
  | .tmp t :: rs, k => getK e t fun a => resK T e s rs fun as => k (a :: as)
  | .cell p t :: rs, k => getK e p fun p => loadW T t s p fun a => resK T e s rs fun as => k (a :: as)
def oneOf (as : List AV) (k : AV → Prop) : Prop := match as with | [a] => k a | as => k (.tuple as)
theorem run_asAddr {p : Addr} (w : World) : (asAddr (.pointer (some p))).run P w = .ok p w := rfl
theorem resK_ok (hT : TOk P T) {C : Ctx} {e : Env} {a : Act} (hg : Good G C) (hr : RepL C e a.tmps.toList) : ∀ {rs : List ResultVar} {k : List AV → Prop}, resK T e C.s rs k →
    ∃ as us, (rs.mapM (fun | .tmp t => pure (a.tmps.getD t undef) | .cell x t => do loadVar t (← asAddr (a.tmps.getD x undef)) : ResultVar → Sem Value)).run P C.w = .ok us C.w ∧ RepL C as us ∧ k as
  | [], k, h => ⟨[], [], by simp, by simp [RepL], h⟩
  | .tmp t :: rs, k, h => by
    obtain ⟨av, h1, h⟩ := getK_ok hr (show getK e t _ from h)
    obtain ⟨as, us, h2, h3, h4⟩ := resK_ok hT hg hr h
    refine ⟨av :: as, a.tmps.getD t undef :: us, ?_, ?_, h4⟩
    · simp only [List.mapM_cons, Sem.run_bind, Sem.run_pure, Result.andThen_ok, h2]
    · simp only [RepL]; exact ⟨_, _, rfl, by simpa [Array.getD_eq_getD_getElem?, List.getD_eq_getElem?_getD] using h1, h3⟩
  | .cell p t :: rs, k, h => by
    obtain ⟨pv, h1, h⟩ := getK_ok hr (show getK e p _ from h)
    obtain ⟨av, r, h2, h3, h⟩ := loadW_ok (P := P) hT hg h1 h
    obtain ⟨as, us, h4, h5, h6⟩ := resK_ok hT hg hr h
    refine ⟨av :: as, r :: us, ?_, by simp only [RepL]; exact ⟨_, _, rfl, h3, h5⟩, h6⟩
    have e1 : a.tmps.toList.getD p undef = a.tmps.getD p undef := by simp [Array.getD_eq_getD_getElem?, List.getD_eq_getElem?_getD]
    rw [e1] at h2
    have h7 : (do loadVar t (← asAddr (a.tmps.getD p undef)) : Sem Value).run P C.w = .ok r C.w := by
      cases hv : a.tmps.getD p undef <;> rw [hv] at h2 <;> first
        | (simp [Instr.loadAt, Instr.sureAddr] at h2; done)
        | skip
      rename_i q
      cases q with
      | none => simp [Instr.loadAt, Instr.sureAddr] at h2
      | some q => simpa [Instr.loadAt, Instr.sureAddr, asAddr] using h2
    simp only [List.mapM_cons, Sem.run_bind] at h7 ⊢
    rw [← Sem.run_bind] at h7 ⊢
    simp only [Sem.run_bind] at h7 ⊢
    rw [h7]
    simp only [Result.andThen_ok, h4, Sem.run_pure]
def retQ (T : TT) (G : Globs) (rs : List ResultVar) (n : Nat) (Q : AEnd → AHeap → Prop) : AQ := fun x e s => match x with
  | .normal | .ret => resK T e s rs fun as => oneOf as fun r => RetW G n Q r s
  | .panic v => n ≤ s.length ∧ Q (.panic v) (s.take n)
  | _ => False
theorem Does.bodyA (hP : Tab P T) {f : FuncId} {fn : Func} {c : Code} {as : List AV} {O : AHeap} {Q : AEnd → AHeap → Prop} (hf : P.funcs[f]? = some fn) (hb : fn.body = some c) (hn : (fn.name == "runtime.NumGoroutine") = false)
    (h : AC P G c (retQ T G fn.results.toList O.length Q) (as ++ List.replicate (fn.ntmps - as.length) (.tuple [])) O) : Does P G f as O Q := by
  intro C cargs hg hs hr
  have hcall : (callFunc f cargs.toArray).run P C.w = .ok (.enter f cargs.toArray) C.w := by
    have hn' : ¬ fn.name = "runtime.NumGoroutine" := by simpa using hn
    simp [callFunc, hf, hn', hb]
  unfold CallsF
  rw [hcall]
  refine calls_of_wp hf hb ?_
  have hrep : RepL C (as ++ List.replicate (fn.ntmps - as.length) (.tuple [])) (cargs.toArray ++ Array.replicate (fn.ntmps - cargs.toArray.size) undef).toList := by
    simp only [Array.toList_append, Array.toList_replicate, List.size_toArray]
    refine RepL.append hr ?_
    rw [RepL.length hr]
    generalize fn.ntmps - as.length = n
    induction n with
    | zero => simp [RepL]
    | succ n ih => simp only [List.replicate_succ, RepL]; exact ⟨_, _, rfl, undef_rep C, ih⟩
  refine wp_mono (h [] C C _ ⟨hg, hrep, rfl, Ext.refl C⟩ hs) ?_
  rintro x a w ⟨C', rfl, g1, g2, g3, g4⟩
  have fin : (∃ e, RepL C' e a.tmps.toList ∧ resK T e C'.s fn.results.toList fun as => oneOf as fun r => RetW G O.length Q r C'.s) → ∃ v, (results fn a.tmps).run P C'.w = .ok v C'.w ∧ EndPost G C O.length Q (.returned v) C'.w := by
    rintro ⟨e, g5, g6⟩
    obtain ⟨rs, us, k1, k2, k3⟩ := resK_ok hP.types g1 g5 g6
    have hmap : (fn.results.mapM (fun | .tmp t => pure (a.tmps.getD t undef) | .cell x t => do loadVar t (← asAddr (a.tmps.getD x undef)) : ResultVar → Sem Value)).run P C'.w = .ok us.toArray C'.w := by
      rw [← Array.toArray_toList (xs := fn.results), List.mapM_toArray, Sem.run_map, k1]; rfl
    have hres : (results fn a.tmps).run P C'.w = .ok (if h : us.toArray.size = 1 then us.toArray[0] else .tuple us.toArray) C'.w := by
      unfold results
      rw [Sem.run_bind]
      exact (congrArg (fun r => Result.andThen r _) hmap).trans rfl
    obtain ⟨r, v, hv, hrv, hret⟩ : ∃ r v, (results fn a.tmps).run P C'.w = .ok v C'.w ∧ RepV C' r v ∧ RetW G O.length Q r C'.s := by
      unfold oneOf at k3
      split at k3
      · rename_i r
        simp only [RepL] at k2
        obtain ⟨u, _, rfl, h1, rfl⟩ := k2
        exact ⟨r, u, by rw [hres]; rfl, h1, k3⟩
      · rename_i hne
        have hlen := RepL.length k2
        refine ⟨.tuple rs, .tuple us.toArray, ?_, by simp only [RepV]; exact ⟨_, rfl, k2⟩, k3⟩
        have : us.length ≠ 1 := by
          intro h1
          rw [hlen] at h1
          match rs, h1 with
          | [x], _ => exact hne x rfl
        rw [hres, dif_neg (by simpa using this)]
    obtain ⟨hn', hq⟩ := hret
    obtain ⟨r', D, d1, d2, d3, d4, d5, d6⟩ := hq C' v g1 rfl hrv
    refine ⟨v, hv, .ret r', D.cut O.length, d1, good_cut d2 _, (g2.trans d3).trans (ext_cut _), ?_, d6, RepV.ext (ext_cut _) _ _ d5⟩
    simp only [Ctx.cut, List.length_take, d4]; omega
  cases x with
  | normal => obtain ⟨v, h1, h2⟩ := fin g4; exact ⟨g3, v, h1, h2⟩
  | ret => obtain ⟨v, h1, h2⟩ := fin g4; exact ⟨g3, v, h1, h2⟩
  | exit id => obtain ⟨e, _, h⟩ := g4; exact h.elim
  | goto l => obtain ⟨e, _, h⟩ := g4; exact h.elim
  | panic ch =>
    obtain ⟨v, av, rfl, h1, h2, h3⟩ := g4
    refine ⟨g3, .panic av, C'.cut O.length, rfl, good_cut g1 _, g2.trans (ext_cut _), ?_, h3, v, rfl, RepV.ext (ext_cut _) _ _ h1⟩
    simp only [Ctx.cut, List.length_take]; omega
  | outgrown => exact g4.elim
theorem Does.body (hP : Tab P T) {f : FuncId} {fn : Func} {c : Code} {as : List AV} {O : AHeap} {Q : AEnd → AHeap → Prop} (hf : P.funcs[f]? = some fn) (hb : fn.body = some c) (hn : (fn.name == "runtime.NumGoroutine") = false)
    (h : wpc P G T c (retQ T G fn.results.toList O.length Q) (as ++ List.replicate (fn.ntmps - as.length) (.tuple [])) O) : Does P G f as O Q := Does.bodyA hP hf hb hn (wpc_ok hP _ _ _ _ h)
theorem DrawW.of {ops : List Oper} {K : Env → AHeap → Prop} {KP : AV → AHeap → Prop} {e : Env} {s : AHeap} (order : List Nat) (h1 : linOK T ops.toArray (Array.replicate ops.length false) order = true) (h2 : Region.noSelect ops.toArray = true) (h3 : order.length = ops.length)
    (h : wpOrd P G T ops K KP order e s) : DrawW P G T ops K KP e s := .inl ⟨order, h1, h2, h3, h⟩
theorem DrawW.plan {ops : List Oper} {K : Env → AHeap → Prop} {KP : AV → AHeap → Prop} {e : Env} {s : AHeap} (p : Plan) (h1 : planOK T ops.toArray ops.length (Array.replicate ops.length false) p = true) (h2 : Region.noSelect ops.toArray = true)
    (h : wpPlan P G T ops K KP p e s) : DrawW P G T ops K KP e s := .inr ⟨p, h1, h2, h⟩
theorem nthO_eq : ∀ {l : List Oper} {n : Nat} {o : Oper} {K : Oper → Prop}, l[n]? = some o → nthO l n K = K o
  | [], n, o, K, h => by simp at h
  | x :: l, 0, o, K, h => by simp at h; subst h; rfl
  | x :: l, n + 1, o, K, h => by simp only [nthO]; exact nthO_eq (by simpa using h)
theorem wpOrd_eq {l0 : List Oper} {K : Env → AHeap → Prop} {KP : AV → AHeap → Prop} : ∀ (l : List Oper) (k : Nat), (∀ j : Nat, l[j]? = l0[k + j]?) → wpOrd P G T l0 K KP (List.range' k l.length) = wpo P G T l0 K KP l
  | [], _, _ => by funext e s; simp [wpOrd, wpo]
  | o :: l, k, hl => by
    have ih := wpOrd_eq (K := K) (KP := KP) l (k + 1) (fun j => by have := hl (j + 1); simpa [Nat.add_assoc, Nat.add_comm 1 j] using this)
    funext e s
    simp only [List.length_cons, List.range'_succ, wpOrd, wpo, ih]
    exact nthO_eq (by simpa using (hl 0).symm)
theorem DrawW.lex {ops : List Oper} {K : Env → AHeap → Prop} {KP : AV → AHeap → Prop} {e : Env} {s : AHeap} (h1 : linOK T ops.toArray (Array.replicate ops.length false) (List.range' 0 ops.length) = true) (h2 : Region.noSelect ops.toArray = true)
    (h : wpo P G T ops K KP ops e s) : DrawW P G T ops K KP e s := .inl ⟨_, h1, h2, by simp, by rw [wpOrd_eq ops 0 (by simp)]; exact h⟩
end
end Go.Abs
/- Rules for use: calls of functions that touch nothing, or one object; numbers that fit. -/
namespace Go.Abs
open Go
theorem wrap_i64 {n : Int} (h : -9223372036854775808 ≤ n) (h' : n ≤ 9223372036854775807) : IntKind.i64.wrap n = n := by
  rw [IntKind.wrap_i64]; omega
theorem wrap_u8 {n : Int} (h : 0 ≤ n) (h' : n ≤ 255) : IntKind.u8.wrap n = n := by
  simp [IntKind.wrap, IntKind.signed, IntKind.bits]; omega
theorem wrap_i32 {n : Int} (h : -2147483648 ≤ n) (h' : n ≤ 2147483647) : IntKind.i32.wrap n = n := by
  simp [IntKind.wrap, IntKind.signed, IntKind.bits]; omega
theorem wrap_u64 {n : Int} (h : 0 ≤ n) (h' : n ≤ 18446744073709551615) : IntKind.u64.wrap n = n := by
  simp [IntKind.wrap, IntKind.signed, IntKind.bits]; omega
section
variable {P : Program} {G : Globs} {f : FuncId} {s : AHeap} {K KP : AV → AHeap → Prop}
theorem hands_none (s : AHeap) : Hands s [] [] := ⟨List.nodup_nil, rfl, (fun j h => by cases h), (fun k j h => by simp at h), (fun o h => by cases h)⟩
theorem CallW.of0 {as : List AV} {Q : AEnd → AHeap → Prop} (h : Does P G f as [] Q) (hc : closedL as = true) (k : ∀ ae, Q ae [] → match ae with | .ret r => closed r = true ∧ K r s | .panic v => closed v = true ∧ KP v s) : CallW P G f as s K KP := by
  refine ⟨[], [], as, hands_none s, insideL_closed _ _ hc, (renL_closed [] as hc).symm, ?_⟩
  -- the callee's objects: none
  intro C cargs hg hs hr
  refine CallsF.mono ?_ (h C cargs hg hs hr)
  rintro e w ⟨ae, C', h1, h2, h3, h4, h5, h6⟩
  have hnil : C'.s = [] := List.eq_nil_of_length_eq_zero h4
  refine ⟨ae, C', h1, h2, h3, h4, ?_, h6⟩
  rw [hnil] at h5
  have := k ae h5
  cases ae with
  | ret r => simp only [putR, ren_closed [] r this.1]; exact this.2
  | panic v => simp only [putR, ren_closed [] v this.1]; exact this.2
theorem CallW.pure {as : List AV} {r : AV} (h : Does P G f as [] fun ae _ => ae = .ret r) (hc : closedL as = true) (hr : closed r = true) (k : K r s) : CallW P G f as s K KP :=
  CallW.of0 h hc fun ae e => by subst e; exact ⟨hr, k⟩
theorem CallW.some {as : List AV} {R : AV → Prop} (h : Does P G f as [] fun ae _ => ∃ r, ae = .ret r ∧ R r) (hc : closedL as = true) (k : ∀ r, R r → closed r = true ∧ K r s) : CallW P G f as s K KP :=
  CallW.of0 h hc fun ae e => by obtain ⟨r, rfl, hr⟩ := e; exact k r hr
theorem hands_one {i : Nat} {o : AObj} (ho : s[i]? = .some (.some o)) (hc : closedLL o.es = true) : Hands s [i] [.some o] := by
  refine ⟨List.nodup_cons.2 ⟨by simp, List.nodup_nil⟩, rfl, fun j h => ?_, fun k j h => ?_, fun x h => ?_⟩
  · have : j = i := by simpa using h
    subst this; exact (List.getElem?_eq_some_iff.1 ho).1
  · cases k with
    | zero =>
      have : i = j := by simpa using h
      subst this
      rw [ho]
      simp [renO, renLL_closed [i] o.es hc]
    | succ k => simp at h
  · have : x = o := by simpa using h
    subst this; exact insideLL_closed _ _ hc
theorem CallW.of1 {as as' : List AV} {Q : AEnd → AHeap → Prop} (i : Nat) {o : AObj} (h : Does P G f as' [.some o] Q) (ho : s[i]? = .some (.some o)) (hco : closedLL o.es = true) (hin : insideL 1 as' = true) (has : renL [i] as' = as)
    (k : ∀ ae O, Q ae O → ∃ o', O = [.some o'] ∧ closedLL o'.es = true ∧ match ae with | .ret r => closed r = true ∧ setHK s i o' (K r) | .panic v => closed v = true ∧ setHK s i o' (KP v)) : CallW P G f as s K KP := by
  refine ⟨[i], [.some o], as', hands_one ho hco, hin, has.symm, ?_⟩
  intro C cargs hg hs hr
  refine CallsF.mono ?_ (h C cargs hg hs hr)
  rintro e w ⟨ae, C', h1, h2, h3, h4, h5, h6⟩
  refine ⟨ae, C', h1, h2, h3, h4, ?_, h6⟩
  obtain ⟨o', hO, hc', hk⟩ := k ae _ h5
  rw [hO]
  have hro : renO [i] o' = o' := by cases o'; simp only [renO, AObj.mk.injEq, true_and]; exact renLL_closed [i] _ hc'
  cases ae with
  | ret r =>
    simp only [putR, Option.map_some, hro]
    obtain ⟨a1, a2⟩ := hk
    rw [ren_closed [i] r a1]
    rw [setHK_eq] at a2
    exact a2
  | panic v =>
    simp only [putR, Option.map_some, hro]
    obtain ⟨a1, a2⟩ := hk
    rw [ren_closed [i] v a1]
    rw [setHK_eq] at a2
    exact a2
theorem CallW.meth {as as' : List AV} {r : AV} {o' : AObj} (i : Nat) {o : AObj} (h : Does P G f as' [.some o] fun ae O => ae = .ret r ∧ O = [.some o']) (ho : s[i]? = .some (.some o)) (has : renL [i] as' = as) (hin : insideL 1 as' = true) (hco : closedLL o.es = true)
    (hco' : closedLL o'.es = true) (hr : closed r = true) (k : setHK s i o' (K r)) : CallW P G f as s K KP :=
  CallW.of1 i h ho hco hin has fun ae O e => by obtain ⟨rfl, rfl⟩ := e; exact ⟨o', rfl, hco', hr, k⟩
theorem CallW.ofN {as : List AV} {Q : AEnd → AHeap → Prop} (js : List Nat) {O : AHeap} {as' : List AV} (h : Does P G f as' O Q) (hh : Hands s js O) (has : renL js as' = as) (hin : insideL js.length as' = true)
    (k : ∀ ae O', Q ae O' → O'.length = O.length → match ae with | .ret r => K (ren js r) (putR js s js O') | .panic v => KP (ren js v) (putR js s js O')) : CallW P G f as s K KP :=
  ⟨js, O, as', hh, hin, has.symm, fun C cargs hg hs hr => CallsF.mono (fun e w ⟨ae, C', h1, h2, h3, h4, h5, h6⟩ => ⟨ae, C', h1, h2, h3, h4, by have := k ae _ h5 h4; exact this, h6⟩) (h C cargs hg hs hr)⟩
theorem renO_closed (js : List Nat) {o : AObj} (h : closedLL o.es = true) : renO js o = o := by
  cases o; simp only [renO, AObj.mk.injEq, true_and]; exact renLL_closed js _ h
theorem hands_closed {js : List Nat} {O : List AObj} (hn : js.Nodup) (hl : O.length = js.length) (h : ∀ k j : Nat, js[k]? = some j → s[j]? = (O[k]?).map some) (hc : ∀ o ∈ O, closedLL o.es = true) : Hands s js (O.map some) := by
  refine ⟨hn, by simp [hl], fun j hj => ?_, fun k j hk => ?_, fun o ho => ?_⟩
  · obtain ⟨k, hk, rfl⟩ := List.getElem_of_mem hj
    have h1 := h k _ (List.getElem?_eq_getElem hk)
    rw [List.getElem?_eq_getElem (l := O) (i := k) (by rw [hl]; exact hk)] at h1
    exact (List.getElem?_eq_some_iff.1 h1).1
  · rw [h k j hk, List.getElem?_map]
    cases ho : O[k]? with
    | none => rfl
    | some o => simp [renO_closed js (hc o (List.mem_of_getElem? ho))]
  · obtain ⟨o', ho', e⟩ := List.mem_map.1 ho
    simp only [Option.some.injEq] at e
    subst e
    exact insideLL_closed _ _ (hc _ ho')
theorem CallW.of2 {as as' : List AV} {Q : AEnd → AHeap → Prop} (i j : Nat) {oi oj : AObj} (h : Does P G f as' [.some oi, .some oj] Q) (hij : i ≠ j) (hi : s[i]? = .some (.some oi)) (hj : s[j]? = .some (.some oj)) (ci : closedLL oi.es = true) (cj : closedLL oj.es = true)
    (hin : insideL 2 as' = true) (has : renL [i, j] as' = as)
    (k : ∀ ae O, Q ae O → match ae with
      | .ret r => ∃ oi' oj', O = [.some oi', .some oj'] ∧ closedLL oi'.es = true ∧ closedLL oj'.es = true ∧ closed r = true ∧ setHK s i oi' fun s => setHK s j oj' (K r)
      | .panic v => closed v = true ∧ ∀ s' : AHeap, s'.length = s.length → KP v s') : CallW P G f as s K KP := by
  refine CallW.ofN [i, j] h (hands_closed (O := [oi, oj]) (by simp [hij]) rfl (fun k m hm => ?_) (by simp [ci, cj])) has hin fun ae O hq hl => ?_
  · match k, hm with
    | 0, hm => have : i = m := by simpa using hm
               subst this; rw [hi]; rfl
    | 1, hm => have : j = m := by simpa using hm
               subst this; rw [hj]; rfl
    | k + 2, hm => simp at hm
  · have := k ae O hq
    cases ae with
    | ret r =>
      obtain ⟨oi', oj', rfl, c1, c2, c3, k1⟩ := this
      simp only [putR, Option.map_some, renO_closed _ c1, renO_closed _ c2, ren_closed _ _ c3]
      simpa only [setHK_eq] using k1
    | panic v =>
      simp only [ren_closed _ _ this.1]
      exact this.2 _ (putR_length _ _ _ _)
theorem CallW.of1p {as as' : List AV} {Q : AEnd → AHeap → Prop} (i : Nat) {oi : AObj} (h : Does P G f as' [.some oi] Q) (hi : s[i]? = .some (.some oi)) (ci : closedLL oi.es = true)
    (hin : insideL 1 as' = true) (has : renL [i] as' = as)
    (k : ∀ ae O, Q ae O → match ae with
      | .ret r => ∃ oi', O = [.some oi'] ∧ closedLL oi'.es = true ∧ closed r = true ∧ setHK s i oi' (K r)
      | .panic v => closed v = true ∧ ∀ s' : AHeap, s'.length = s.length → KP v s') : CallW P G f as s K KP := by
  refine CallW.ofN [i] h (hands_closed (O := [oi]) (by simp) rfl (fun k m hm => ?_) (by simp [ci])) has hin fun ae O hq hl => ?_
  · match k, hm with
    | 0, hm => have : i = m := by simpa using hm
               subst this; rw [hi]; rfl
    | k + 1, hm => simp at hm
  · have := k ae O hq
    cases ae with
    | ret r =>
      obtain ⟨oi', rfl, c1, c3, k1⟩ := this
      simp only [putR, Option.map_some, renO_closed _ c1, ren_closed _ _ c3]
      simpa only [setHK_eq] using k1
    | panic v =>
      simp only [ren_closed _ _ this.1]
      exact this.2 _ (putR_length _ _ _ _)
theorem CallW.of3 {as as' : List AV} {Q : AEnd → AHeap → Prop} (i j l : Nat) {oi oj ol : AObj} (h : Does P G f as' [.some oi, .some oj, .some ol] Q) (hij : i ≠ j) (hil : i ≠ l) (hjl : j ≠ l) (hi : s[i]? = .some (.some oi)) (hj : s[j]? = .some (.some oj)) (hl : s[l]? = .some (.some ol))
    (ci : closedLL oi.es = true) (cj : closedLL oj.es = true) (cl : closedLL ol.es = true) (hin : insideL 3 as' = true) (has : renL [i, j, l] as' = as)
    (k : ∀ ae O, Q ae O → match ae with
      | .ret r => ∃ oi' oj' ol', O = [.some oi', .some oj', .some ol'] ∧ closedLL oi'.es = true ∧ closedLL oj'.es = true ∧ closedLL ol'.es = true ∧ closed r = true ∧ setHK s i oi' fun s => setHK s j oj' fun s => setHK s l ol' (K r)
      | .panic v => closed v = true ∧ ∀ s' : AHeap, s'.length = s.length → KP v s') : CallW P G f as s K KP := by
  refine CallW.ofN [i, j, l] h (hands_closed (O := [oi, oj, ol]) (by simp [hij, hil, hjl]) rfl (fun k m hm => ?_) (by simp [ci, cj, cl])) has hin fun ae O hq hle => ?_
  · match k, hm with
    | 0, hm => have : i = m := by simpa using hm
               subst this; rw [hi]; rfl
    | 1, hm => have : j = m := by simpa using hm
               subst this; rw [hj]; rfl
    | 2, hm => have : l = m := by simpa using hm
               subst this; rw [hl]; rfl
    | k + 3, hm => simp at hm
  · have := k ae O hq
    cases ae with
    | ret r =>
      obtain ⟨oi', oj', ol', rfl, c1, c2, c3, c4, k1⟩ := this
      simp only [putR, Option.map_some, renO_closed _ c1, renO_closed _ c2, renO_closed _ c3, ren_closed _ _ c4]
      simpa only [setHK_eq] using k1
    | panic v =>
      simp only [ren_closed _ _ this.1]
      exact this.2 _ (putR_length _ _ _ _)
end
/-! ### Loops -/
section
variable {P : Program} {G : Globs} {T : TT}
def RndW (P : Program) (G : Globs) (T : TT) (b : Code) (Q : AQ) : Nat → Env → AHeap → Prop
  | 0, _, _ => False
  | n + 1, e, s => wpc P G T b (thenQ (fun e' s' => RndW P G T b Q n e' s') Q) e s
theorem AC.rounds (hP : Tab P T) {b : Code} {Q : AQ} : ∀ (n : Nat) {e : Env} {s : AHeap}, RndW P G T b Q n e s → AC P G (.loop b) Q e s := by
  intro n e s h
  have key : ∀ n ds C0 e C a, Fits G C0 ds C e a → RndW P G T b Q n e C.s → Code.rounds P b (APost G C0 ds Q) n a C.w := by
    intro n ds C0
    induction n with
    | zero => intro e C a _ h; exact h.elim
    | succ n ih =>
      intro e C a hf h
      have h1 := wpc_ok hP b _ e C.s (show wpc P G T b _ e C.s from h) ds C0 C a hf rfl
      refine wp_mono h1 ?_
      rintro x' a' w' ⟨C', rfl, g1, g2, g3, g4⟩
      cases x' with
      | normal =>
        obtain ⟨e', g5, g6⟩ := g4
        exact ih e' C' a' ⟨g1, g5, g3, g2⟩ g6
      | exit id => exact ⟨C', rfl, g1, g2, g3, g4⟩
      | goto l => exact ⟨C', rfl, g1, g2, g3, g4⟩
      | ret => exact ⟨C', rfl, g1, g2, g3, g4⟩
      | panic c => exact ⟨C', rfl, g1, g2, g3, g4⟩
      | outgrown => exact ⟨C', rfl, g1, g2, g3, g4⟩
  intro ds C0 C a hf hs
  subst hs
  exact wp_loop_rounds n (key n ds C0 e C a hf h)
def Fgt : Env → Env → Prop
  | [], e => e = []
  | a :: as, e => ∃ b bs, e = b :: bs ∧ (b = a ∨ b = .any) ∧ Fgt as bs
theorem Fgt.rep {C : Ctx} : ∀ {e e' : Env} {us : List Value}, Fgt e e' → RepL C e us → RepL C e' us
  | [], e', us, h, hr => by simp only [Fgt] at h; subst h; exact hr
  | a :: as, e', us, h, hr => by
    simp only [Fgt] at h
    obtain ⟨b, bs, rfl, hb, h⟩ := h
    simp only [RepL] at hr ⊢
    obtain ⟨u, r, rfl, h1, h2⟩ := hr
    refine ⟨u, r, rfl, ?_, h.rep h2⟩
    rcases hb with rfl | rfl
    · exact h1
    · simp [RepV, RepF]
theorem Fgt.wk {e e' : Env} (h : Fgt e e') (s : AHeap) : Wk G s e s e' := fun C us hg hs hr => ⟨C, rfl, hg, Ext.refl C, hs, h.rep hr⟩
theorem Fgt.keep {a : AV} {as bs : Env} (h : Fgt as bs) : Fgt (a :: as) (a :: bs) := ⟨a, bs, rfl, .inl rfl, h⟩
theorem Fgt.drop {a : AV} {as bs : Env} (h : Fgt as bs) : Fgt (a :: as) (.any :: bs) := ⟨.any, bs, rfl, .inr rfl, h⟩
theorem Fgt.nil : Fgt [] [] := rfl
theorem AC.loopF (hP : Tab P T) {b : Code} {Q : AQ} {e : Env} {s : AHeap} (I : Nat → Env → AHeap → Prop) (n : Nat) (h0 : ∃ e', Fgt e e' ∧ I n e' s)
    (round : ∀ n e s, I n e s → wpc P G T b (thenQ (fun e' s' => ∃ m e'', m < n ∧ Fgt e' e'' ∧ I m e'' s') Q) e s) : AC P G (.loop b) Q e s := by
  obtain ⟨e0, hw0, h0⟩ := h0
  intro ds C0 C a hf hs
  refine wp_loop_ghost (fun n a w => ∃ C e, Fits G C0 ds C e a ∧ C.w = w ∧ I n e C.s) n ⟨C, e0, ⟨hf.good, hw0.rep hf.rep, hf.defers, hf.ext⟩, rfl, by rw [hs]; exact h0⟩ ?_
  rintro n a w ⟨C, e, hf, rfl, hI⟩
  refine wp_mono (wpc_ok hP b _ e C.s (round n e C.s hI) ds C0 C a hf rfl) ?_
  rintro x' a' w' ⟨C', rfl, g1, g2, g3, g4⟩
  cases x' with
  | normal =>
    obtain ⟨e', g5, m, e'', g6, g7, g8⟩ := g4
    exact ⟨m, g6, C', e'', ⟨g1, g7.rep g5, g3, g2⟩, rfl, g8⟩
  | exit id => exact ⟨C', rfl, g1, g2, g3, g4⟩
  | goto l => exact ⟨C', rfl, g1, g2, g3, g4⟩
  | ret => exact ⟨C', rfl, g1, g2, g3, g4⟩
  | panic c => exact ⟨C', rfl, g1, g2, g3, g4⟩
  | outgrown => exact ⟨C', rfl, g1, g2, g3, g4⟩
end
theorem AC.loopC {P : Program} {G : Globs} {T : TT} (hP : Tab P T) {b : Code} {Q : AQ} {e : Env} {s : AHeap} (I : Nat → Env → AHeap → Prop) (n : Nat) (h0 : ∃ e', Fgt e e' ∧ I n e' s)
    (round : ∀ n e s, I n e s → wpc P G T b (thenQ (fun e' s' => ∃ m e'' k, m < n ∧ Fgt e' e'' ∧ I m e'' (s'.take k)) Q) e s) : AC P G (.loop b) Q e s := by
  obtain ⟨e0, hw0, h0⟩ := h0
  intro ds C0 C a hf hs
  refine wp_loop_ghost (fun n a w => ∃ C e, Fits G C0 ds C e a ∧ C.w = w ∧ I n e C.s) n ⟨C, e0, ⟨hf.good, hw0.rep hf.rep, hf.defers, hf.ext⟩, rfl, by rw [hs]; exact h0⟩ ?_
  rintro n a w ⟨C, e, hf, rfl, hI⟩
  refine wp_mono (wpc_ok hP b _ e C.s (round n e C.s hI) ds C0 C a hf rfl) ?_
  rintro x' a' w' ⟨C', rfl, g1, g2, g3, g4⟩
  cases x' with
  | normal =>
    obtain ⟨e', g5, m, e'', k, g6, g7, g8⟩ := g4
    exact ⟨m, g6, C'.cut k, e'', ⟨good_cut g1 k, RepL.ext (ext_cut k) _ _ (g7.rep g5), g3, g2.trans (ext_cut k)⟩, rfl, g8⟩
  | exit id => exact ⟨C', rfl, g1, g2, g3, g4⟩
  | goto l => exact ⟨C', rfl, g1, g2, g3, g4⟩
  | ret => exact ⟨C', rfl, g1, g2, g3, g4⟩
  | panic c => exact ⟨C', rfl, g1, g2, g3, g4⟩
  | outgrown => exact ⟨C', rfl, g1, g2, g3, g4⟩
theorem AC.own {P : Program} {G : Globs} {c : Code} {Q : AQ} {e : Env} {s : AHeap} (k : Nat) (t sz : Nat) (hk : e[k]? = some .nils) (hsz : 0 < sz) (h : ∀ ver, AC P G c Q (e.set k (.sl s.length ver)) (s ++ [some ⟨ver, t, sz, []⟩])) : AC P G c Q e s := by
  intro ds C0 C a hf hs
  subst hs
  obtain ⟨g1, g2, g3⟩ := good_nothing (e := t) hf.good hsz
  refine h C.N ds C0 (C.push C.w ⟨C.N, t, sz, []⟩ (.slice none 0 0)) a ⟨g1, RepL.setV' g2 hf.rep fun b u hb hu => ?_, hf.defers, hf.ext.trans g2⟩ rfl
  rw [hk] at hb
  simp only [Option.some.injEq] at hb
  subst hb
  simp only [RepV, RepF] at hu
  subst hu
  exact g3
end Go.Abs
/- A call that is handed all objects, under the names that they have. -/
namespace Go.Abs
open Go
mutual
theorem ren_id (n : Nat) : ∀ a : AV, inside n a = true → ren (List.range n) a = a
  | .any, _ => by simp [ren]
  | .bool _, _ => by simp [ren]
  | .int .., _ => by simp [ren]
  | .str _, _ => by simp [ren]
  | .nilp, _ => by simp [ren]
  | .ptr i ver k off, h => by
    have hi : i < n := by simpa [inside] using h
    simp [ren, List.getElem?_range hi]
  | .fptr _, _ => by simp [ren]
  | .nils, _ => by simp [ren]
  | .sl i ver, h => by
    have hi : i < n := by simpa [inside] using h
    simp [ren, List.getElem?_range hi]
  | .fsl _, _ => by simp [ren]
  | .mp i ver, h => by
    have hi : i < n := by simpa [inside] using h
    simp [ren, List.getElem?_range hi]
  | .fmap _, _ => by simp [ren]
  | .nilf, _ => by simp [ren]
  | .func fn f c, h => by
    simp only [inside, Bool.and_eq_true] at h
    simp only [ren, renL_id n f h.1, renL_id n c h.2]
  | .nili, _ => by simp [ren]
  | .iface t x, h => by
    simp only [inside] at h
    simp only [ren, ren_id n x h]
  | .agg cs, h => by
    simp only [inside] at h
    simp only [ren, renL_id n cs h]
  | .tuple cs, h => by
    simp only [inside] at h
    simp only [ren, renL_id n cs h]
theorem renL_id (n : Nat) : ∀ as : List AV, insideL n as = true → renL (List.range n) as = as
  | [], _ => by simp [renL]
  | a :: as, h => by
    simp only [insideL, Bool.and_eq_true] at h
    simp only [renL, ren_id n a h.1, renL_id n as h.2]
end
theorem renLL_id (n : Nat) : ∀ es : List (List AV), insideLL n es = true → renLL (List.range n) es = es
  | [], _ => by simp [renLL]
  | e :: es, h => by
    simp only [insideLL, Bool.and_eq_true] at h
    simp only [renLL, renL_id n e h.1, renLL_id n es h.2]
def insideO (n : Nat) : AHeap → Bool
  | [] => true
  | none :: s => insideO n s
  | some o :: s => insideLL n o.es && insideO n s
theorem insideO_mem {n : Nat} : ∀ {s : AHeap}, insideO n s = true → ∀ o, some o ∈ s → insideLL n o.es = true
  | [], _, o, h => by cases h
  | none :: s, hs, o, h => by
    rcases List.mem_cons.1 h with h | h
    · cases h
    · exact insideO_mem (by simpa [insideO] using hs) o h
  | some x :: s, hs, o, h => by
    simp only [insideO, Bool.and_eq_true] at hs
    rcases List.mem_cons.1 h with h | h
    · cases h; exact hs.1
    · exact insideO_mem hs.2 o h
theorem renO_id {n : Nat} {o : AObj} (h : insideLL n o.es = true) : renO (List.range n) o = o := by
  cases o
  simp only [renO, AObj.mk.injEq, true_and]
  exact renLL_id n _ h
section
variable {P : Program} {G : Globs} {f : FuncId} {s : AHeap} {K KP : AV → AHeap → Prop}
theorem CallW.all {as : List AV} {Q : AEnd → AHeap → Prop} (h : Does P G f as s Q) (hin : insideL s.length as = true) (hs : insideO s.length s = true)
    (k : ∀ ae s', Q ae s' → s'.length = s.length → match ae with
      | .ret r => inside s.length r = true ∧ insideO s.length s' = true ∧ K r s'
      | .panic v => inside s.length v = true ∧ insideO s.length s' = true ∧ KP v s') : CallW P G f as s K KP := by
  have hput : ∀ s' : AHeap, s'.length = s.length → insideO s.length s' = true → putR (List.range s.length) s (List.range s.length) s' = s' := by
    intro s' hl hi
    apply List.ext_getElem?
    intro i
    have hg := putR_get (List.range s.length) (List.range s.length) s' s List.nodup_range (by simp [hl]) (fun j hj => by simpa using hj) i
    by_cases hlt : i < s.length
    · rw [hg.1 i (List.getElem?_range hlt)]
      cases hx : s'[i]? with
      | none => simp
      | some o =>
        cases o with
        | none => simp
        | some o => simp [renO_id (insideO_mem hi o (List.mem_of_getElem? hx))]
    · rw [List.getElem?_eq_none (by rw [putR_length]; omega), List.getElem?_eq_none (by omega)]
  refine ⟨List.range s.length, s, as, ⟨List.nodup_range, by simp, fun j hj => by simpa using hj, fun k j hk => ?_, fun o ho => ?_⟩, by simpa using hin, (renL_id _ _ hin).symm, ?_⟩
  · have hk2 : k < s.length := by
      have := (List.getElem?_eq_some_iff.1 hk).1; simpa using this
    rw [List.getElem?_range hk2] at hk
    simp only [Option.some.injEq] at hk
    subst hk
    cases hx : s[k]? with
    | none => simp
    | some o =>
      cases o with
      | none => simp
      | some o => simp [renO_id (insideO_mem hs o (List.mem_of_getElem? hx))]
  · simpa using insideO_mem hs o ho
  · intro C cargs hg hs1 hr
    refine CallsF.mono ?_ (h C cargs hg hs1 hr)
    rintro e w ⟨ae, C', h1, h2, h3, h4, h5, h6⟩
    refine ⟨ae, C', h1, h2, h3, h4, ?_, h6⟩
    have := k ae _ h5 h4
    cases ae with
    | ret r =>
      obtain ⟨k1, k2, k3⟩ := this
      simp only [ren_id _ _ k1, hput _ h4 k2]
      exact k3
    | panic v =>
      obtain ⟨k1, k2, k3⟩ := this
      simp only [ren_id _ _ k1, hput _ h4 k2]
      exact k3
theorem CallW.pan1 {as as' : List AV} {v : AV} (i : Nat) {oi : AObj} (h : Does P G f as' [.some oi] fun ae _ => ae = .panic v) (hi : s[i]? = .some (.some oi)) (ci : closedLL oi.es = true)
    (hin : insideL 1 as' = true) (has : renL [i] as' = as) (hv : closed v = true) (k : ∀ s' : AHeap, s'.length = s.length → KP v s') : CallW P G f as s K KP :=
  CallW.of1p i h hi ci hin has fun ae O e => by subst e; exact ⟨hv, k⟩
end
theorem Wk.ptr {G : Globs} {s : AHeap} {xs : List AV} {k i ver : Nat} {o : AObj} {cs : List AV} (hk : xs[k]? = some (.ptr i ver 0 0)) (ho : s[i]? = some (some o)) (hv : o.ver = ver) (he : o.es = [cs]) (hc : closedLL o.es = true) :
    Wk G s xs (s.set i none) (xs.set k (.fptr cs)) := by
  intro C us hg hs hr
  subst hs
  refine ⟨C.free i, rfl, good_free hg i, ext_free i, rfl, RepL.setV' (ext_free i) hr fun b u hb hu => ?_⟩
  rw [hk] at hb
  simp only [Option.some.injEq] at hb
  subst hb
  exact RepV.freezeP hg ho hv he hc hu
/-! ### An object, seen otherwise -/
section
variable {G : Globs} {C : Ctx}
def Ctx.see (C : Ctx) (i : Nat) (o : AObj) : Ctx := { C with s := C.s.set i (some o) }
theorem see_live {i : Nat} {o : AObj} {j : Nat} {x : AObj} (h : (C.see i o).live j x) : (j = i ∧ x = o) ∨ (j ≠ i ∧ C.live j x) := by
  unfold Ctx.live Ctx.see at h
  by_cases hj : j = i
  · subst hj
    rw [List.getElem?_set] at h
    split at h
    · split at h
      · simp only [Option.some.injEq] at h; exact .inl ⟨rfl, h.symm⟩
      · cases h
    · exact absurd rfl ‹_›
  · rw [List.getElem?_set_ne (fun e => hj e.symm)] at h
    exact .inr ⟨hj, h⟩
theorem good_see {i : Nat} {o o' : AObj} (hg : Good G C) (hl : C.live i o) (hv : o'.ver = o.ver) (ht : o'.t = o.t) (hz : o'.sz = o.sz) (hlen : o'.es.length = o.es.length) (hsz : ∀ e ∈ o'.es, e.length = wd o'.sz)
    (hrep : ∀ xs, RepLL C o.es xs → RepLL C o'.es xs) : Good G (C.see i o') ∧ Ext C (C.see i o') := by
  have he : Ext C (C.see i o') := ⟨rfl, rfl, rfl, Nat.le_refl _, Nat.le_refl _, rfl, fun _ _ => rfl, fun j x hx _ => by
    rcases see_live hx with ⟨rfl, rfl⟩ | ⟨_, hx⟩
    · exact ⟨o, hl, hv.symm, hz.symm, rfl⟩
    · exact ⟨x, hx, rfl, rfl, rfl⟩,
   fun b hb => ⟨⟨hb.1, fun j x hx => by
    rcases see_live hx with ⟨rfl, rfl⟩ | ⟨_, hx⟩
    · exact hb.2.1 _ o hl
    · exact hb.2.1 j x hx, hb.2.2⟩, rfl⟩⟩
  refine ⟨⟨fun j x hx => ?_, fun j k x y hx hy => ?_, fun j x hx => ?_, hg.out, fun p hp => ?_⟩, he⟩
  · rcases see_live hx with ⟨rfl, rfl⟩ | ⟨_, hx⟩
    · obtain ⟨a1, a2, a3, ys, a4, a5, a6⟩ := hg.obj _ o hl
      exact ⟨by rw [hv]; exact a1, by rw [hz]; exact a2, hsz, ys, by rw [ht, hz, hlen]; exact a4, RepLL.ext he _ _ (hrep ys a5), a6⟩
    · obtain ⟨a1, a2, a3, ys, a4, a5, a6⟩ := hg.obj j x hx
      exact ⟨a1, a2, a3, ys, a4, RepLL.ext he _ _ a5, a6⟩
  · have up : ∀ {j : Nat} {x : AObj}, (C.see i o').live j x → ∃ y, C.live j y := fun {j x} h => by
      rcases see_live h with ⟨rfl, rfl⟩ | ⟨_, h⟩
      · exact ⟨o, hl⟩
      · exact ⟨x, h⟩
    obtain ⟨x', hx'⟩ := up hx
    obtain ⟨y', hy'⟩ := up hy
    exact hg.apart j k x' y' hx' hy'
  · rcases see_live hx with ⟨rfl, rfl⟩ | ⟨_, hx⟩
    · exact hg.own _ o hl
    · exact hg.own j x hx
  · obtain ⟨us, b1, b2, b3⟩ := hg.glob p hp
    exact ⟨us, (he.fz _ b1).1, readsG_ext he.fext b1 b2, RepFL.ext he.fext _ _ b3⟩
theorem AC.ownC {P : Program} {c : Code} {Q : AQ} {e : Env} {s : AHeap} (i k t sz : Nat) {o : AObj} {cs : List AV} (hi : s[i]? = some (some o)) (he : o.es = [cs]) (hk : cs[k]? = some .nils) (hsz : 0 < sz)
    (h : ∀ ver, AC P G c Q e (s.set i (some { o with es := [cs.set k (.sl s.length ver)] }) ++ [some ⟨ver, t, sz, []⟩])) : AC P G c Q e s := by
  intro ds C0 C a hf hs
  subst hs
  have hil : i < C.s.length := (List.getElem?_eq_some_iff.1 hi).1
  obtain ⟨g1, g2, g3⟩ := good_nothing (e := t) hf.good hsz
  have hl1 : (C.push C.w ⟨C.N, t, sz, []⟩ (.slice none 0 0)).live i o := by
    unfold Ctx.live Ctx.push
    rw [List.getElem?_append_left hil]; exact hi
  obtain ⟨_, _, hcs, _⟩ := hf.good.obj i o hi
  obtain ⟨k1, k2⟩ := good_see (o' := { o with es := [cs.set k (.sl C.s.length C.N)] }) g1 hl1 rfl rfl rfl (by rw [he]; rfl) (fun x hx => by
    rw [List.mem_singleton.1 hx, List.length_set]
    exact hcs cs (by rw [he]; simp)) (fun xs hx => by
    rw [he] at hx
    simp only [RepLL] at hx ⊢
    obtain ⟨p, r, rfl, h1, h2⟩ := hx
    refine ⟨p, r, rfl, RepL.setV h1 fun b u hb hu => ?_, h2⟩
    rw [hk] at hb
    simp only [Option.some.injEq] at hb
    subst hb
    simp only [RepV, RepF] at hu
    subst hu
    exact g3)
  refine h C.N ds C0 ((C.push C.w ⟨C.N, t, sz, []⟩ (.slice none 0 0)).see i { o with es := [cs.set k (.sl C.s.length C.N)] }) a ⟨k1, RepL.ext (g2.trans k2) _ _ hf.rep, hf.defers, hf.ext.trans (g2.trans k2)⟩ ?_
  exact List.set_append_left _ _ hil
end
/-! ### Code, a statement at a time -/
section
variable {P : Program} {G : Globs} {T : TT} {a b : Code} {Q : AQ} {e : Env} {s : AHeap}
theorem AC.go (hP : Tab P T) (h : wpc P G T a Q e s) : AC P G a Q e s := wpc_ok hP a Q e s h
theorem AC.step (hP : Tab P T) (h : wpc P G T a (thenQ (fun e s => AC P G b Q e s) Q) e s) : AC P G (.seq a b) Q e s := fun ds C0 C x hf hs => by
  have h1 := wpc_ok hP a _ e s h
  refine wp_seq (wp_mono (h1 ds C0 C x hf hs) ?_)
  rintro x' a' w' ⟨C', rfl, g1, g2, g3, g4⟩
  cases x' with
  | normal =>
    obtain ⟨e', g5, g6⟩ := g4
    exact g6 ds C0 C' a' ⟨g1, g5, g3, g2⟩ rfl
  | exit id => exact ⟨C', rfl, g1, g2, g3, g4⟩
  | goto l => exact ⟨C', rfl, g1, g2, g3, g4⟩
  | ret => exact ⟨C', rfl, g1, g2, g3, g4⟩
  | panic c => exact ⟨C', rfl, g1, g2, g3, g4⟩
  | outgrown => exact ⟨C', rfl, g1, g2, g3, g4⟩
theorem AC.cutF (hP : Tab P T) (I : Env → AHeap → Prop) (ha : wpc P G T a (thenQ (fun e s => ∃ e' k, Fgt e e' ∧ I e' (s.take k)) Q) e s) (hb : ∀ e s, I e s → AC P G b Q e s) : AC P G (.seq a b) Q e s := fun ds C0 C x hf hs => by
  have h1 := wpc_ok hP a _ e s ha
  refine wp_seq (wp_mono (h1 ds C0 C x hf hs) ?_)
  rintro x' a' w' ⟨C', rfl, g1, g2, g3, g4⟩
  cases x' with
  | normal =>
    obtain ⟨e', g5, e'', k, g6, g7⟩ := g4
    exact hb e'' _ g7 ds C0 (C'.cut k) a' ⟨good_cut g1 k, RepL.ext (ext_cut k) _ _ (g6.rep g5), g3, g2.trans (ext_cut k)⟩ rfl
  | exit id => exact ⟨C', rfl, g1, g2, g3, g4⟩
  | goto l => exact ⟨C', rfl, g1, g2, g3, g4⟩
  | ret => exact ⟨C', rfl, g1, g2, g3, g4⟩
  | panic c => exact ⟨C', rfl, g1, g2, g3, g4⟩
  | outgrown => exact ⟨C', rfl, g1, g2, g3, g4⟩
end
end Go.Abs
/- Deferred functions that recover. -/
namespace Go.Abs
open Go
section
variable {P : Program} {G : Globs} {T : TT}
theorem upon_mono {o : Oper} {a : Act} {K K' : Act → World → Prop} {Q Q' : Exit → Act → World → Prop} (hK : ∀ a w, K a w → K' a w) (hQ : ∀ x a w, Q x a w → Q' x a w) {r : Result Next} (h : o.upon P a K Q r) : o.upon P a K' Q' r := by
  unfold Oper.upon at *
  split at h
  · exact hK _ _ h
  · exact hK _ _ h
  · exact hK _ _ h
  · refine h.mono ?_
    intro e w he
    cases e with
    | returned v => exact hK _ _ he
    | panicked ch => exact hQ _ _ _ he
    | outgrown =>
      obtain ⟨a0, w0, hq⟩ := he
      exact ⟨a0, w0, hQ _ _ _ hq⟩
  · intro fr cs
    obtain ⟨v, w'', h1, h2⟩ := h fr cs
    exact ⟨v, w'', hK _ _ h1, h2⟩
  · exact hQ _ _ _ h
  · exact h.elim
theorem wpoS_ok {l0 : List Oper} (hT : TOk P T) {Q : AQ} {C0 : Ctx} {ds : List Deferred} {cs : List Frame} {Qs : Exit → Act → List Frame → World → Prop} (hQ : ∀ x a w, APost G C0 ds Q x a w → Qs x a cs w) :
    ∀ (l : List Oper) (k : Nat) {C : Ctx} {e : Env} {a : Act}, (∀ j : Nat, l[j]? = l0[k + j]?) → Fits G C0 ds C e a → wpo P G T l0 (Q .normal) (fun v s => Q (.panic v) [] s) l e C.s → wpOpsS P l0.toArray Qs (List.range' k l.length) a cs C.w
  | [], k, C, e, a, _, hf, h => hQ _ _ _ ⟨C, rfl, hf.good, hf.ext, hf.defers, e, hf.rep, h⟩
  | o :: l, k, C, e, a, hl, hf, h => by
    have h : stepW P G T l0 o e C.s (fun e' s' => wpo P G T l0 (Q .normal) (fun v s => Q (.panic v) [] s) l e' s') (fun v s => Q (.panic v) [] s) := h
    have ho : l0.toArray[k]? = some o := by have := hl 0; simpa using this.symm
    have hl' : ∀ j : Nat, l[j]? = l0[k + 1 + j]? := fun j => by have := hl (j + 1); simpa [Nat.add_assoc, Nat.add_comm 1 j] using this
    simp only [List.length_cons, List.range'_succ, wpOpsS, ho]
    rcases stepW_ok hT hf h with ⟨hw, e', h1, h2⟩ | ⟨hw, _, v, e', h1, h2, h3⟩ | ⟨hw, _, v, e', h1, h2, h3⟩ | ⟨hw, _, h1⟩
    · rw [if_neg (by simp [hw])]; exact wpoS_ok hT hQ l (k + 1) hl' h1 h2
    · rw [if_pos hw, h1]; exact wpoS_ok hT hQ l (k + 1) hl' h2 h3
    · rw [if_pos hw, h1]; exact wpoS_ok hT hQ l (k + 1) hl' h2 h3
    · rw [if_pos hw]
      have h2 := h1 (fun a' w' => wpOpsS P l0.toArray Qs (List.range' (k + 1) l.length) a' cs w') fun C' e' a' h2 _ h3 => wpoS_ok hT hQ l (k + 1) hl' h2 h3
      unfold Oper.wp at h2
      generalize (execOp a.eval o).run P C.w = r at h2
      have h3 := upon_mono (K' := fun a' w' => wpOpsS P l0.toArray Qs (List.range' (k + 1) l.length) a' cs w') (Q' := fun x a w => Qs x a cs w) (fun _ _ h => h) hQ h2
      split
      · exact h3.elim
      · exact h3
inductive Recovers (C : Ctx) : FrameMode → AV → FrameMode → Prop where
  | ret : Recovers C .returning .nili .returning
  | pan {v : Value} {rv : AV} (h : RepV C rv v) : Recovers C (.panicking [{ v, recovered := false }]) rv (.panicking [{ v, recovered := true }])
def cloQ (Q : AHeap → Prop) : AQ := fun x _ s => match x with
  | .normal | .ret => Q s
  | _ => False
theorem clo_ok (hP : Tab P T) {f : FuncId} {fn : Func} {id : Nat} {ops : Array Oper} {rest : Code} {o0 : Oper} {ops' : List Oper} {d : Tmp} (hf : P.funcs[f]? = some fn) (hb : fn.body = some (.seq (.region id ops false) rest))
    (hops : ops.toList = o0 :: ops') (h0 : (execOp (fun _ => undef) o0) = pure .recover) (h00 : ∀ g, execOp g o0 = execOp (fun _ => undef) o0) (hg : o0.guard = none) (hd : o0.dst = some d) (hres : fn.results = #[])
    {C : Ctx} {cargs : List Value} {as : List AV} (hgd : Good G C) (hr : RepL C as cargs) {u u' : FrameMode} {rv : AV} (hu : Recovers C u rv u') {Q : AHeap → Prop}
    (h : wpo P G T ops.toList (fun e s => wpc P G T rest (cloQ Q) e s) (fun _ _ => False) ops' ((as ++ List.replicate (fn.ntmps - as.length) (AV.tuple [])).set d rv) C.s) :
    CallsD P f cargs.toArray u C.w fun e u2 w' => e = Ending.returned (Value.tuple #[]) ∧ u2 = u' ∧ ∃ C', C'.w = w' ∧ Good G C' ∧ Ext C C' ∧ Q C'.s := by
  refine callsD_of_wpS hf hb fun c0 cs hmode => ?_
  refine wpS_seq (wpS_region ?_)
  have hops2 : ops = (o0 :: ops').toArray := by rw [← hops]
  have hrep : RepL C (as ++ List.replicate (fn.ntmps - as.length) (AV.tuple [])) (cargs.toArray ++ Array.replicate (fn.ntmps - cargs.toArray.size) undef).toList := by
    simp only [Array.toList_append, Array.toList_replicate, List.size_toArray]
    refine RepL.append hr ?_
    rw [RepL.length hr]
    generalize fn.ntmps - as.length = n
    induction n with
    | zero => simp [RepL]
    | succ n ih => simp only [List.replicate_succ, RepL]; exact ⟨_, _, rfl, undef_rep C, ih⟩
  generalize hact : ({ tmps := cargs.toArray ++ Array.replicate (fn.ntmps - cargs.toArray.size) undef, defers := [] } : Act) = a0
  have hrep : RepL C (as ++ List.replicate (fn.ntmps - as.length) (AV.tuple [])) a0.tmps.toList := by rw [← hact]; exact hrep
  have hdef : a0.defers = [] := by rw [← hact]
  have hrange : List.range ops.size = 0 :: List.range' 1 ops'.length := by
    rw [hops2, List.range_eq_range']; simp [List.range'_succ]
  rw [hrange]
  have hget : ops[0]? = some o0 := by rw [hops2]; rfl
  have hw : Region.wanted o0 (yielded ops a0.tmps) = true := by simp [Region.wanted, hg]
  have hex : (execOp a0.eval o0).run P C.w = .ok .recover C.w := by rw [h00, h0]; rfl
  simp only [wpOpsS, hget, hw, if_true, hex]
  -- behind the recovery
  have go : ∀ (v : Value), RepV C rv v → ∀ cs', cs' = { c0 with mode := u' } :: cs → wpOpsS P ops (Exit.thenS (rest.wpS P (bodyPostS P fn c0 cs fun e u2 w' => e = Ending.returned (Value.tuple #[]) ∧ u2 = u' ∧ ∃ C', C'.w = w' ∧ Good G C' ∧ Ext C C' ∧ Q C'.s)) (bodyPostS P fn c0 cs fun e u2 w' => e = Ending.returned (Value.tuple #[]) ∧ u2 = u' ∧ ∃ C', C'.w = w' ∧ Good G C' ∧ Ext C C' ∧ Q C'.s)) (List.range' 1 ops'.length) (a0.put o0.dst v) cs' C.w := by
    intro v hv cs' hcs
    have hfit : Fits G C [] C ((as ++ List.replicate (fn.ntmps - as.length) (AV.tuple [])).set d rv) (a0.put o0.dst v) := by
      refine ⟨hgd, ?_, by rw [put_defers']; exact hdef, Ext.refl C⟩
      have := rep_put (d := o0.dst) hrep hv
      rw [hd] at this ⊢
      exact this
    have hres2 : ∀ (tm : Array Value) (w : World), (results fn tm).run P w = .ok (.tuple #[]) w := fun tm w => by
      unfold results
      rw [hres]
      simp
    have fin : ∀ x a w, APost G C [] (cloQ Q) x a w → bodyPostS P fn c0 cs (fun e u2 w' => e = Ending.returned (Value.tuple #[]) ∧ u2 = u' ∧ ∃ C', C'.w = w' ∧ Good G C' ∧ Ext C C' ∧ Q C'.s) x a cs' w := by
      rintro x a w ⟨C', rfl, g1, g2, g3, g4⟩
      cases x with
      | normal => obtain ⟨e, _, hq⟩ := g4; exact ⟨g3, u', hcs, _, hres2 _ _, rfl, rfl, C', rfl, g1, g2, hq⟩
      | ret => obtain ⟨e, _, hq⟩ := g4; exact ⟨g3, u', hcs, _, hres2 _ _, rfl, rfl, C', rfl, g1, g2, hq⟩
      | exit id => obtain ⟨e, _, hq⟩ := g4; exact hq.elim
      | goto l => obtain ⟨e, _, hq⟩ := g4; exact hq.elim
      | panic ch => obtain ⟨v, av, _, _, hq⟩ := g4; exact hq.elim
      | outgrown => exact g4.elim
    rw [hops2] at h ⊢
    refine wpoS_ok (G := G) (C0 := C) (ds := []) (Q := fun x e s => match x with | .normal => wpc P G T rest (cloQ Q) e s | _ => False) hP.types ?_ ops' 1 (fun j => by rw [Nat.add_comm]; rfl) hfit h
    rintro x a w ⟨C', rfl, g1, g2, g3, g4⟩
    cases x with
    | normal =>
      obtain ⟨e, g5, g6⟩ := g4
      refine wpS_of_wp (wp_mono (wpc_ok hP rest _ e C'.s g6 [] C C' a ⟨g1, g5, g3, g2⟩ rfl) ?_)
      exact fun x' a' w' hA => fin x' a' w' hA
    | ret => obtain ⟨e, _, hq⟩ := g4; exact hq.elim
    | exit id => obtain ⟨e, _, hq⟩ := g4; exact hq.elim
    | goto l => obtain ⟨e, _, hq⟩ := g4; exact hq.elim
    | panic ch => obtain ⟨v, av, _, _, hq⟩ := g4; exact hq.elim
    | outgrown => exact g4.elim
  cases hu with
  | ret =>
    have hrec : recoverD (c0 :: cs) = none := by simp [recoverD, hmode]
    simp only [hrec]
    refine go .nilIface (by simp [RepV, RepF]) _ ?_
    rw [← hmode]
  | pan hv =>
    rename_i v
    have hrec : recoverD (c0 :: cs) = some (v, { c0 with mode := .panicking [{ v, recovered := true }] } :: cs) := by simp [recoverD, hmode]
    simp only [hrec]
    exact go v hv _ rfl
/-! ### The function that defers -/
theorem upon_same {o : Oper} {a : Act} {K : Act → World → Prop} {Q : Exit → Act → World → Prop} (hout : ∀ a w, ¬ Q .outgrown a w) {r : Result Next} (h : o.upon P a K Q r) : o.upon P a K (fun x a' w' => a' = a ∧ Q x a' w') r := by
  unfold Oper.upon at *
  split at h
  · exact h
  · exact h
  · exact h
  · refine h.mono ?_
    intro e w he
    cases e with
    | returned v => exact he
    | panicked ch => exact ⟨rfl, he⟩
    | outgrown =>
      obtain ⟨a0, w0, hq⟩ := he
      exact absurd hq (hout _ _)
  · exact h
  · exact ⟨rfl, h⟩
  · exact h.elim
theorem wpList_mono' {ops : Array Oper} {Q Q' : Exit → Act → World → Prop} (hQ : ∀ x a w, Q x a w → Q' x a w) : ∀ (l : List Oper) {a : Act} {w : World}, wpList P ops Q l a w → wpList P ops Q' l a w
  | [], a, w, h => hQ _ _ _ h
  | o :: l, a, w, h => by
    unfold wpList at h ⊢
    split at h
    · rename_i hw
      rw [if_pos hw]
      rcases h with h | ⟨h1, a0, w0, h2⟩
      · left
        unfold Oper.wp at h ⊢
        exact upon_mono (fun _ _ h => wpList_mono' hQ l h) hQ h
      · exact .inr ⟨h1, a0, w0, hQ _ _ _ h2⟩
    · rename_i hw
      rw [if_neg hw]
      exact wpList_mono' hQ l h
def EPost (G : Globs) (C0 : Ctx) (ds : List Deferred) (K : Env → AHeap → Prop) (KP : Env → AV → AHeap → Prop) : Exit → Act → World → Prop := fun x a w =>
  ∃ C', C'.w = w ∧ Good G C' ∧ Ext C0 C' ∧ a.defers = ds ∧ match x with
    | .normal => ∃ e, RepL C' e a.tmps.toList ∧ K e C'.s
    | .panic ch => ∃ e v av, ch = [{ v, recovered := false }] ∧ RepL C' e a.tmps.toList ∧ RepV C' av v ∧ KP e av C'.s
    | _ => False
def wpoE (P : Program) (G : Globs) (T : TT) (l0 : List Oper) (K : Env → AHeap → Prop) (KP : Env → AV → AHeap → Prop) : List Oper → Env → AHeap → Prop
  | [], e, s => K e s
  | o :: rest, e, s => stepW P G T l0 o e s (fun e' s' => wpoE P G T l0 K KP rest e' s') (KP e)
theorem wpoE_ok {l0 : List Oper} (hT : TOk P T) {K : Env → AHeap → Prop} {KP : Env → AV → AHeap → Prop} {C0 : Ctx} {ds : List Deferred} : ∀ {l : List Oper} {C : Ctx} {e : Env} {a : Act}, Fits G C0 ds C e a → wpoE P G T l0 K KP l e C.s → wpList P l0.toArray (EPost G C0 ds K KP) l a C.w
  | [], C, e, a, hf, h => ⟨C, rfl, hf.good, hf.ext, hf.defers, e, hf.rep, h⟩
  | o :: l, C, e, a, hf, h => by
    have h : stepW P G T l0 o e C.s (fun e' s' => wpoE P G T l0 K KP l e' s') (fun v s => (fun (x : AX) (_ : Env) (s : AHeap) => match x with | .panic v => KP e v s | _ => False : AQ) (.panic v) [] s) := h
    unfold wpList
    have hf' : Fits G C ds C e a := ⟨hf.good, hf.rep, hf.defers, Ext.refl C⟩
    have up : ∀ {C' : Ctx} {e' : Env} {a' : Act}, Fits G C ds C' e' a' → Fits G C0 ds C' e' a' := fun h => ⟨h.good, h.rep, h.defers, hf.ext.trans h.ext⟩
    rcases stepW_ok (Q := (fun (x : AX) (_ : Env) (s : AHeap) => match x with | .panic v => KP e v s | _ => False : AQ)) hT hf' h with ⟨hw, e', h1, h2⟩ | ⟨hw, _, v, e', h1, h2, h3⟩ | ⟨hw, _, v, e', h1, h2, h3⟩ | ⟨hw, _, h1⟩
    · rw [if_neg (by simp [hw])]; exact wpoE_ok hT (up h1) h2
    · rw [if_pos hw]; left; unfold Oper.wp; rw [h1]; exact wpoE_ok hT (up h2) h3
    · rw [if_pos hw]; left; unfold Oper.wp; rw [h1]; exact wpoE_ok hT (up h2) h3
    · rw [if_pos hw]; left
      have h2 := h1 (fun a' w' => wpList P l0.toArray (EPost G C0 ds K KP) l a' w') fun C' e' a' h2 _ h3 => wpoE_ok hT (up h2) h3
      unfold Oper.wp at h2 ⊢
      refine upon_mono (fun _ _ h => h) ?_ (upon_same (fun a w h => by obtain ⟨C', _, _, _, _, h⟩ := h; exact h) h2)
      rintro x a' w' ⟨rfl, C', rfl, g1, g2, g3, g4⟩
      cases x with
      | normal => obtain ⟨e', _, hq⟩ := g4; exact hq.elim
      | ret => obtain ⟨e', _, hq⟩ := g4; exact hq.elim
      | exit id => obtain ⟨e', _, hq⟩ := g4; exact hq.elim
      | goto l => obtain ⟨e', _, hq⟩ := g4; exact hq.elim
      | panic ch =>
        obtain ⟨v, av, g5, g6, g7⟩ := g4
        exact ⟨C', rfl, g1, hf.ext.trans g2, g3, e, v, av, g5, RepL.ext g2 _ _ hf.rep, g6, g7⟩
      | outgrown => exact g4.elim
theorem results_ok (hP : Tab P T) {fn : Func} {C0 C : Ctx} {e : Env} {a : Act} {n : Nat} {Q : AEnd → AHeap → Prop} (hg : Good G C) (hx : Ext C0 C) (hr : RepL C e a.tmps.toList) (h : resK T e C.s fn.results.toList fun as => oneOf as fun r => RetW G n Q r C.s) :
    ∃ v, (results fn a.tmps).run P C.w = .ok v C.w ∧ EndPost G C0 n Q (.returned v) C.w := by
  obtain ⟨rs, us, k1, k2, k3⟩ := resK_ok hP.types hg hr h
  have hmap : (fn.results.mapM (fun | .tmp t => pure (a.tmps.getD t undef) | .cell x t => do loadVar t (← asAddr (a.tmps.getD x undef)) : ResultVar → Sem Value)).run P C.w = .ok us.toArray C.w := by
    rw [← Array.toArray_toList (xs := fn.results), List.mapM_toArray, Sem.run_map]; exact (congrArg (fun r => Result.andThen r _) k1).trans rfl
  have hres : (results fn a.tmps).run P C.w = .ok (if h : us.toArray.size = 1 then us.toArray[0] else .tuple us.toArray) C.w := by
    unfold results
    rw [Sem.run_bind]
    exact (congrArg (fun r => Result.andThen r _) hmap).trans rfl
  obtain ⟨r, v, hv, hrv, hret⟩ : ∃ r v, (results fn a.tmps).run P C.w = .ok v C.w ∧ RepV C r v ∧ RetW G n Q r C.s := by
    unfold oneOf at k3
    split at k3
    · rename_i r
      simp only [RepL] at k2
      obtain ⟨u, _, rfl, h1, rfl⟩ := k2
      exact ⟨r, u, by rw [hres]; rfl, h1, k3⟩
    · rename_i hne
      have hlen := RepL.length k2
      refine ⟨.tuple rs, .tuple us.toArray, ?_, by simp only [RepV]; exact ⟨_, rfl, k2⟩, k3⟩
      have : us.length ≠ 1 := by
        intro h1
        rw [hlen] at h1
        match rs, h1 with
        | [x], _ => exact hne x rfl
      rw [hres, dif_neg (by simpa using this)]
  obtain ⟨hn', hq⟩ := hret
  obtain ⟨r', D, d1, d2, d3, d4, d5, d6⟩ := hq C v hg rfl hrv
  refine ⟨v, hv, .ret r', D.cut n, d1, good_cut d2 _, (hx.trans d3).trans (ext_cut _), ?_, d6, RepV.ext (ext_cut _) _ _ d5⟩
  simp only [Ctx.cut, List.length_take, d4]; omega
def BD (P : Program) (G : Globs) (fn : Func) (n : Nat) (Q : AEnd → AHeap → Prop) (c : Code) (e : Env) (s : AHeap) : Prop :=
  ∀ C0 C a, Fits G C0 [] C e a → C.s = s → c.wp P (bodyPostD P fn (EndPost G C0 n Q)) a C.w
def bdQ (T : TT) (G : Globs) (rs : List ResultVar) (n : Nat) (Q : AEnd → AHeap → Prop) (K : Env → AHeap → Prop) : AQ := fun x e s => match x with
  | .normal => K e s
  | .ret => resK T e s rs fun as => oneOf as fun r => RetW G n Q r s
  | .panic v => n ≤ s.length ∧ Q (.panic v) (s.take n)
  | _ => False
theorem BD.seq (hP : Tab P T) {fn : Func} {n : Nat} {Q : AEnd → AHeap → Prop} {x y : Code} {e : Env} {s : AHeap} (h : wpc P G T x (bdQ T G fn.results.toList n Q (BD P G fn n Q y)) e s) : BD P G fn n Q (.seq x y) e s := by
  intro C0 C a hf hs
  refine wp_seq (wp_mono (wpc_ok hP x _ e s h [] C0 C a hf hs) ?_)
  rintro x' a' w' ⟨C', rfl, g1, g2, g3, g4⟩
  cases x' with
  | normal =>
    obtain ⟨e', g5, g6⟩ := g4
    exact g6 C0 C' a' ⟨g1, g5, g3, g2⟩ rfl
  | ret =>
    obtain ⟨e', g5, g6⟩ := g4
    show Leaves P fn a'.tmps _ a'.defers .returning C'.w
    rw [g3]
    exact results_ok hP g1 g2 g5 g6
  | exit id => obtain ⟨e', _, h⟩ := g4; exact h.elim
  | goto l => obtain ⟨e', _, h⟩ := g4; exact h.elim
  | panic ch =>
    obtain ⟨v, av, rfl, h1, h2, h3⟩ := g4
    show Leaves P fn a'.tmps _ a'.defers (.panicking _) C'.w
    rw [g3]
    refine ⟨.panic av, C'.cut n, rfl, good_cut g1 _, g2.trans (ext_cut _), ?_, h3, v, rfl, RepV.ext (ext_cut _) _ _ h1⟩
    simp only [Ctx.cut, List.length_take]; omega
  | outgrown => exact g4.elim
def CloW (P : Program) (G : Globs) (f : FuncId) (cap : List AV) (rv : AV) (s : AHeap) (K : AHeap → Prop) : Prop :=
  ∀ C cargs u u', Good G C → C.s = s → RepL C cap cargs → Recovers C u rv u' → CallsD P f cargs.toArray u C.w fun e u2 w' => e = Ending.returned (Value.tuple #[]) ∧ u2 = u' ∧ ∃ C', C'.w = w' ∧ Good G C' ∧ Ext C C' ∧ K C'.s
theorem CloW.of (hP : Tab P T) {f : FuncId} {fn : Func} {id : Nat} {ops : Array Oper} {rest : Code} {o0 : Oper} {ops' : List Oper} {d : Tmp} (hf : P.funcs[f]? = some fn) (hb : fn.body = some (.seq (.region id ops false) rest))
    (hops : ops.toList = o0 :: ops') (h0 : (execOp (fun _ => undef) o0) = pure .recover) (h00 : ∀ g, execOp g o0 = execOp (fun _ => undef) o0) (hg : o0.guard = none) (hd : o0.dst = some d) (hres : fn.results = #[])
    {as : List AV} {rv : AV} {s : AHeap} {Q : AHeap → Prop}
    (h : wpo P G T ops.toList (fun e s => wpc P G T rest (cloQ Q) e s) (fun _ _ => False) ops' ((as ++ List.replicate (fn.ntmps - as.length) (AV.tuple [])).set d rv) s) : CloW P G f as rv s Q := by
  intro C cargs u u' hgd hs hr hu
  subst hs
  exact clo_ok hP hf hb hops h0 h00 hg hd hres hgd hr hu h
theorem BD.defer (hP : Tab P T) {fn : Func} {n : Nat} {Q : AEnd → AHeap → Prop} {id1 id2 : Nat} {om od : Oper} {ops2 : Array Oper} {f' : FuncId} {fn' : Func} {d : Tmp} {caps : Array Operand} {e : Env} {s : AHeap}
    (hf' : P.funcs[f']? = some fn') (hb' : fn'.body.isSome = true) (hn' : (fn'.name == "runtime.NumGoroutine") = false)
    (hom : om.op = .makeFunc (.func f') #[] caps) (hg1 : om.guard = none) (hd1 : om.dst = some d) (hod : od.op = .defer { callee := .value (.tmp d), args := #[], argTypes := #[] }) (hg2 : od.guard = none) (hd2 : od.dst = none) (hlt : d < e.length)
    (h : evLK G e caps.toList fun cap => setEK e d (.func (.func f') [] cap) fun e1 =>
      wpoE P G T ops2.toList (fun e s => CloW P G f' cap .nili s fun s' => resK T e s' fn.results.toList fun as => oneOf as fun r => RetW G n Q r s')
        (fun e v s => CloW P G f' cap v s fun s' => resK T e s' fn.results.toList fun as => oneOf as fun r => RetW G n Q r s') ops2.toList e1 s) :
    BD P G fn n Q (.seq (.region id1 #[om, od] false) (.seq (.region id2 ops2 false) .ret)) e s := by
  intro C0 C a hf hs
  subst hs
  obtain ⟨cap, hcap, h⟩ := evLK_arr hf.good hf.rep h
  rw [setEK_eq] at h
  have hn2 : ¬ fn'.name = "runtime.NumGoroutine" := by simpa using hn'
  have hbn : fn'.body ≠ none := by intro e; rw [e] at hb'; simp at hb'
  -- the two operations
  generalize hcv : caps.map a.eval = cv at hcap
  have ha1 : RepL C (e.set d (.func (.func f') [] cap)) (a.put (some d) (.func (.func f') #[] cv)).tmps.toList := by
    refine rep_put (d := some d) hf.rep ?_
    simp only [RepV]
    exact ⟨#[], cv, rfl, by simp [RepL], hcap⟩
  refine wp_seq (wp_region_list ?_)
  have hx1 : (execOp a.eval om).run P C.w = .ok (.value (.func (.func f') #[] cv)) C.w := by
    obtain ⟨dst, op, ty, pos, after, guard⟩ := om
    subst hom
    simp [execOp, hcv, Instr.makeFunc]
  simp only [wpList]
  rw [if_pos (by simp [Region.wanted, hg1])]
  left
  unfold Oper.wp
  rw [hx1, Oper.upon_value, hd1]
  generalize hact : a.put (some d) (.func (.func f') #[] cv) = a1 at ha1
  rw [if_pos (by simp [Region.wanted, hg2])]
  left
  have hev : a1.eval (.tmp d) = .func (.func f') #[] cv := by
    rw [← hact]
    have hsz : d < a.tmps.size := by have := RepL.length hf.rep; rw [Array.length_toList] at this; exact Nat.lt_of_lt_of_eq hlt this.symm
    simp [Act.put, Act.eval, hsz]
  have hx2 : (execOp a1.eval od).run P C.w = .ok (.defer ⟨.fn (.func f') cv, #[]⟩) C.w := by
    obtain ⟨dst, op, ty, pos, after, guard⟩ := od
    subst hod
    simp [execOp, resolve, hev, Deferred.ofValue]
  rw [hx2, Oper.upon_defer, hd2]
  have hdef : a1.defers = [] := by rw [← hact, put_defers']; exact hf.defers
  show Code.wp P (.seq (.region id2 ops2 false) .ret) (bodyPostD P fn (EndPost G C0 n Q)) { a1 with defers := ⟨.fn (.func f') cv, #[]⟩ :: a1.defers } C.w
  rw [hdef]
  have fits : Fits G C [⟨.fn (.func f') cv, #[]⟩] C (e.set d (.func (.func f') [] cap)) { a1 with defers := [⟨.fn (.func f') cv, #[]⟩] } := ⟨hf.good, ha1, rfl, Ext.refl C⟩
  have hmain := wpoE_ok (P := P) (l0 := ops2.toList) hP.types fits h
  -- how it leaves
  have leave : ∀ (C' : Ctx) (e' : Env) (a' : Act) (u u' : FrameMode) (rv : AV), Good G C' → Ext C C' → a'.defers = [⟨.fn (.func f') cv, #[]⟩] → RepL C' e' a'.tmps.toList → Recovers C' u rv u' → u ≠ .run → settle u' = .returning →
      (CloW P G f' cap rv C'.s fun s' => resK T e' s' fn.results.toList fun as => oneOf as fun r => RetW G n Q r s') → Leaves P fn a'.tmps (EndPost G C0 n Q) a'.defers u C'.w := by
    intro C' e' a' u u' rv g1 g2 g3 g4 g5 g6 g7 g8
    rw [g3]
    refine ⟨g6, .func f', cv, f', #[] ++ cv, rfl, ?_, ?_⟩
    · simp [invoke, callFunc, hf', hn2, hbn]
    · have hc := g8 C' cv.toList u u' g1 rfl (RepL.ext g2 _ _ hcap) g5
      have hca : cv.toList.toArray = #[] ++ cv := by simp
      rw [hca] at hc
      refine hc.mono ?_
      rintro e2 u2 w' ⟨rfl, rfl, C'', rfl, k1, k2, k3⟩
      show Leaves P fn a'.tmps _ [] (settle u2) C''.w
      rw [g7]
      exact results_ok hP k1 ((hf.ext.trans g2).trans k2) (RepL.ext k2 _ _ g4) k3
  refine wp_seq (wp_region_list ?_)
  refine wpList_mono' ?_ _ (by simpa using hmain)
  rintro x a' w' ⟨C', rfl, g1, g2, g3, g4⟩
  cases x with
  | normal =>
    obtain ⟨e', g5, g6⟩ := g4
    refine wp_ret ?_
    exact leave C' e' a' .returning .returning .nili g1 g2 g3 g5 .ret (by simp) rfl g6
  | panic ch =>
    obtain ⟨e', v, av, rfl, g5, g6, g7⟩ := g4
    exact leave C' e' a' _ _ av g1 g2 g3 g5 (.pan g6) (by simp) rfl g7
  | ret => exact g4.elim
  | exit id => exact g4.elim
  | goto l => exact g4.elim
  | outgrown => exact g4.elim
theorem Does.ofBD {f : FuncId} {fn : Func} {c : Code} {as : List AV} {O : AHeap} {Q : AEnd → AHeap → Prop} (hf : P.funcs[f]? = some fn) (hb : fn.body = some c) (hn : (fn.name == "runtime.NumGoroutine") = false)
    (h : BD P G fn O.length Q c (as ++ List.replicate (fn.ntmps - as.length) (.tuple [])) O) : Does P G f as O Q := by
  intro C cargs hg hs hr
  have hcall : (callFunc f cargs.toArray).run P C.w = .ok (.enter f cargs.toArray) C.w := by
    have hn' : ¬ fn.name = "runtime.NumGoroutine" := by simpa using hn
    simp [callFunc, hf, hn', hb]
  unfold CallsF
  rw [hcall]
  refine calls_of_wp_defers hf hb ?_
  have hrep : RepL C (as ++ List.replicate (fn.ntmps - as.length) (AV.tuple [])) (cargs.toArray ++ Array.replicate (fn.ntmps - cargs.toArray.size) undef).toList := by
    simp only [Array.toList_append, Array.toList_replicate, List.size_toArray]
    refine RepL.append hr ?_
    rw [RepL.length hr]
    generalize fn.ntmps - as.length = n
    induction n with
    | zero => simp [RepL]
    | succ n ih => simp only [List.replicate_succ, RepL]; exact ⟨_, _, rfl, undef_rep C, ih⟩
  exact h C C _ ⟨hg, hrep, rfl, Ext.refl C⟩ hs
end
end Go.Abs
