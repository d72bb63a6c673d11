/- A clean state beside the machine's, and what each operation does to it: a part of the means by which this claim is proved. -/
import Derived.Laws.AppendOwn
import Derived.Below
import Derived.Laws.Tables
import Derived.WalkKit
import Derived.Laws.AppendOwnNone
import Derived.Laws.MakeOwn
import Derived.Lib.AppendStr
import Derived.Laws.BytesString
import Derived.Laws.IdiomStrings
import Derived.Laws.StructEq
import Derived.Lib.Builder
import Derived.Great.BuildSlice
set_option linter.unusedVariables false
set_option linter.unusedSimpArgs false
/- A clean state beside the machine's: values without addresses, objects by number, and what it means that they stand for a world's. -/
namespace Go.Abs
open Go
inductive AV where
  | any
  | bool (b : Bool)
  | int (k : IntKind) (n : Int)
  | str (s : List UInt8)
  | nilp
  | ptr (i ver k off : Nat)
  | fptr (cs : List AV)
  | nils
  | sl (i ver : Nat)
  | fsl (es : List (List AV))
  | mp (i ver : Nat)
  | fmap (es : List (List AV))
  | nilf
  | func (fn : Fn) (first captured : List AV)
  | nili
  | iface (t : TypeId) (v : AV)
  | agg (cs : List AV)
  | tuple (vs : List AV)
  deriving Inhabited
structure AObj where
  ver : Nat
  t : TypeId
  sz : Nat
  es : List (List AV)
abbrev AHeap := List (Option AObj)
abbrev Env := List AV
def mapCells (es : Array MapEntry) : List Value := es.toList.flatMap fun e => [e.key, e.val]
def owns (w : World) (t sz : Nat) (v : Value) (n : Nat) (xs : List Value) : Prop :=
  match sz with
  | 0 => ∃ g es clock, v = .slice (some ⟨g, 0, none⟩) 0 0 ∧ w.heap[g]? = some (.map es clock) ∧ mapCells es = xs
  | k + 1 => w.ownsRow 0 t (k + 1) v n xs
def wd : Nat → Nat
  | 0 => 2
  | k + 1 => k + 1
theorem wd_pos (n : Nat) : 0 < wd n := by cases n <;> simp [wd]
theorem wd_of {n : Nat} (h : 0 < n) : wd n = n := by cases n <;> simp [wd] at *
theorem owns.row {w : World} {t sz : Nat} {v : Value} {n : Nat} {xs : List Value} (k : owns w t sz v n xs) (h : 0 < sz) : w.ownsRow 0 t sz v n xs := by
  cases sz with
  | zero => omega
  | succ m => exact k
theorem owns_of {w : World} {t sz : Nat} {v : Value} {n : Nat} {xs : List Value} (h : 0 < sz) (k : w.ownsRow 0 t sz v n xs) : owns w t sz v n xs := by
  cases sz with
  | zero => omega
  | succ m => exact k
theorem owns.lt {w : World} {t sz : Nat} {v : Value} {n : Nat} {xs : List Value} (k : owns w t sz v n xs) {g : Nat} (hg : v.ownBlock = some g) : g < w.heap.size := by
  cases sz with
  | zero =>
    obtain ⟨b, es, clock, rfl, hb, _⟩ := k
    have : b = g := by simpa [Value.ownBlock] using hg
    subst this
    exact (Array.getElem?_eq_some_iff.1 hb).1
  | succ m => exact (World.ownsRow.lt k g hg).2
theorem owns.same {w w' : World} {t sz : Nat} {v : Value} {n : Nat} {xs : List Value} (k : owns w t sz v n xs) (h : ∀ g, v.ownBlock = some g → w'.heap[g]? = w.heap[g]?) : owns w' t sz v n xs := by
  cases sz with
  | zero =>
    obtain ⟨b, es, clock, rfl, hb, hx⟩ := k
    exact ⟨b, es, clock, rfl, by rw [h b rfl]; exact hb, hx⟩
  | succ m =>
    refine ⟨k.1, k.2.imp id ?_⟩
    rintro ⟨g, cap, cur, e1, e2, e3, e4⟩
    exact ⟨g, cap, cur, e1, e2, by rw [h g (by rw [e1]; rfl)]; exact e3, e4⟩
theorem owns.kept {w w' : World} {t sz : Nat} {v : Value} {n : Nat} {xs : List Value} {row : Option Nat} (k : owns w t sz v n xs) (h : w.grownBy w' row) (hne : v.ownBlock = none ∨ v.ownBlock ≠ row) : owns w' t sz v n xs :=
  k.same fun g hg => h.block g (k.lt hg) fun e => by
    rcases hne with h1 | h1
    · rw [h1] at hg; cases hg
    · exact h1 (hg.trans e)
structure Ctx where
  w : World
  s : AHeap
  io : Nat → Value
  N : Nat
  F : Nat → Prop
def Ctx.live (C : Ctx) (i : Nat) (o : AObj) : Prop := C.s[i]? = some (some o)
def Ctx.fz (C : Ctx) (b : Nat) : Prop := b < C.w.heap.size ∧ (∀ i o, C.live i o → (C.io i).ownBlock ≠ some b) ∧ ¬ C.F b
def reads (w : World) (b off : Nat) (us : List Value) : Prop := ∀ j u, us[j]? = some u → w.cell? ⟨b, off + j, none⟩ = some u
mutual
def RepF (C : Ctx) : AV → Value → Prop
  | .any, _ => True
  | .bool b, v => v = .bool b
  | .int k n, v => v = .int k n
  | .str s, v => v = .string ⟨⟨s⟩⟩
  | .nilp, v => v = .pointer none
  | .ptr _ _ _ _, _ => False
  | .fptr cs, v => ∃ b off us, v = .pointer (some ⟨b, off, none⟩) ∧ C.fz b ∧ reads C.w b off us ∧ RepFL C cs us
  | .nils, v => v = .slice none 0 0
  | .sl _ _, _ => False
  | .fsl es, v => ∃ a cap, es.length ≤ cap ∧ v = .slice a es.length cap ∧ ((es = [] ∧ (a = none → cap = 0)) ∨ ∃ b off us, a = some ⟨b, off, none⟩ ∧ C.fz b ∧ reads C.w b off us ∧ RepFLL C es us)
  | .mp _ _, _ => False
  | .fmap es, v => (v = .map none ∧ es = []) ∨ ∃ b ms clock, v = .map (some b) ∧ C.fz b ∧ C.w.heap[b]? = some (.map ms clock) ∧ RepFLL C es (mapCells ms)
  | .nilf, v => v = .nilFunc
  | .func fn first captured, v => ∃ f c, v = .func fn f c ∧ RepFL C first f.toList ∧ RepFL C captured c.toList
  | .nili, v => v = .nilIface
  | .iface t x, v => ∃ y, v = .iface t y ∧ RepF C x y
  | .agg cs, v => ∃ us, v = .agg us ∧ RepFL C cs us.toList
  | .tuple cs, v => ∃ us, v = .tuple us ∧ RepFL C cs us.toList
def RepFL (C : Ctx) : List AV → List Value → Prop
  | [], us => us = []
  | a :: as, us => ∃ u r, us = u :: r ∧ RepF C a u ∧ RepFL C as r
def RepFLL (C : Ctx) : List (List AV) → List Value → Prop
  | [], us => us = []
  | e :: es, us => ∃ p r, us = p ++ r ∧ RepFL C e p ∧ RepFLL C es r
end
mutual
def RepV (C : Ctx) : AV → Value → Prop
  | .ptr i ver k off, v => (∃ p, v = .pointer p) ∧ ver < C.N ∧ ∀ o, C.live i o → o.ver = ver → 0 < o.sz ∧ ∃ g, (C.io i).ownBlock = some g ∧ v = .pointer (some ⟨g, k * o.sz + off, none⟩)
  | .sl i ver, v => (∃ a l c, v = .slice a l c) ∧ ver < C.N ∧ ∀ o, C.live i o → o.ver = ver → 0 < o.sz ∧ v = C.io i
  | .mp i ver, v => (∃ b, v = .map b) ∧ ver < C.N ∧ ∀ o, C.live i o → o.ver = ver → o.sz = 0 ∧ ∃ g, (C.io i).ownBlock = some g ∧ v = .map (some g)
  | .func fn first captured, v => ∃ f c, v = .func fn f c ∧ RepL C first f.toList ∧ RepL C captured c.toList
  | .iface t x, v => ∃ y, v = .iface t y ∧ RepV C x y
  | .agg cs, v => ∃ us, v = .agg us ∧ RepL C cs us.toList
  | .tuple cs, v => ∃ us, v = .tuple us ∧ RepL C cs us.toList
  | a, v => RepF C a v
def RepL (C : Ctx) : List AV → List Value → Prop
  | [], us => us = []
  | a :: as, us => ∃ u r, us = u :: r ∧ RepV C a u ∧ RepL C as r
end
def RepLL (C : Ctx) : List (List AV) → List Value → Prop
  | [], us => us = []
  | e :: es, us => ∃ p r, us = p ++ r ∧ RepL C e p ∧ RepLL C es r
abbrev Globs := List (Nat × List AV)
def readsG (w : World) (b n : Nat) (us : List Value) : Prop := reads w b 0 us ∧ (n = 20 → ∃ cs t fr, w.heap[b]? = some (.cells cs t fr) ∧ cs.toList = us)
structure Good (G : Globs) (C : Ctx) : Prop where
  obj : ∀ i o, C.live i o → o.ver < C.N ∧ 0 < wd o.sz ∧ (∀ e ∈ o.es, e.length = wd o.sz) ∧
    ∃ xs, owns C.w o.t o.sz (C.io i) o.es.length xs ∧ RepLL C o.es xs ∧ ∀ x ∈ xs, x.oneCell' = true
  apart : ∀ i j o o', C.live i o → C.live j o' → i ≠ j → ∀ g, (C.io i).ownBlock = some g → (C.io j).ownBlock ≠ some g
  own : ∀ i o, C.live i o → ∀ g, (C.io i).ownBlock = some g → ¬ C.F g
  out : ∀ b, C.F b → b < C.w.heap.size
  glob : ∀ p ∈ G, ∃ us, C.fz p.1 ∧ readsG C.w p.1 p.2.length us ∧ RepFL C p.2 us
structure Ext (C C' : Ctx) : Prop where
  os : C'.w.os = C.w.os
  tape : C'.w.tape = C.w.tape
  output : C'.w.output = C.w.output
  size : C.w.heap.size ≤ C'.w.heap.size
  N : C.N ≤ C'.N
  F : C'.F = C.F
  out : ∀ b, C.F b → C'.w.heap[b]? = C.w.heap[b]?
  live : ∀ i o', C'.live i o' → o'.ver < C.N → ∃ o, C.live i o ∧ o.ver = o'.ver ∧ o.sz = o'.sz ∧ C'.io i = C.io i
  fz : ∀ b, C.fz b → C'.fz b ∧ C'.w.heap[b]? = C.w.heap[b]?
theorem Ext.refl (C : Ctx) : Ext C C := ⟨rfl, rfl, rfl, Nat.le_refl _, Nat.le_refl _, rfl, fun _ _ => rfl, fun _ o h _ => ⟨o, h, rfl, rfl, rfl⟩, fun _ h => ⟨h, rfl⟩⟩
theorem Ext.trans {A B C : Ctx} (h : Ext A B) (k : Ext B C) : Ext A C :=
  ⟨k.os.trans h.os, k.tape.trans h.tape, k.output.trans h.output, Nat.le_trans h.size k.size, Nat.le_trans h.N k.N, k.F.trans h.F,
   fun b hb => (k.out b (by rw [h.F]; exact hb)).trans (h.out b hb),
   fun i o' hl hv => by
     obtain ⟨o, ho, e1, e2, e3⟩ := k.live i o' hl (Nat.lt_of_lt_of_le hv h.N)
     obtain ⟨o2, ho2, f1, f2, f3⟩ := h.live i o ho (by omega)
     exact ⟨o2, ho2, f1.trans e1, f2.trans e2, e3.trans f3⟩,
   fun b hb => by
     obtain ⟨h1, h2⟩ := h.fz b hb
     obtain ⟨k1, k2⟩ := k.fz b h1
     exact ⟨k1, k2.trans h2⟩⟩
structure FExt (C C' : Ctx) : Prop where
  fz : ∀ b, C.fz b → C'.fz b ∧ C'.w.heap[b]? = C.w.heap[b]?
theorem Ext.fext {C C' : Ctx} (h : Ext C C') : FExt C C' := ⟨h.fz⟩
theorem reads_ext {C C' : Ctx} (h : FExt C C') {b off : Nat} {us : List Value} (hb : C.fz b) (hr : reads C.w b off us) : reads C'.w b off us :=
  fun j u hu => (World.cell?_of_block (w := C.w) (w' := C'.w) (a := ⟨b, off + j, none⟩) (h.fz b hb).2).trans (hr j u hu)
theorem readsG_ext {C C' : Ctx} (h : FExt C C') {b n : Nat} {us : List Value} (hb : C.fz b) (hr : readsG C.w b n us) : readsG C'.w b n us :=
  ⟨reads_ext h hb hr.1, fun hn => by obtain ⟨cs, t, fr, h1, h2⟩ := hr.2 hn; exact ⟨cs, t, fr, (h.fz b hb).2.trans h1, h2⟩⟩
mutual
theorem RepF.ext {C C' : Ctx} (h : FExt C C') : ∀ (a : AV) (v : Value), RepF C a v → RepF C' a v
  | .any, _, _ => by simp only [RepF]
  | .bool b, v, hr => by simp only [RepF] at *; exact hr
  | .int k n, v, hr => by simp only [RepF] at *; exact hr
  | .str s, v, hr => by simp only [RepF] at *; exact hr
  | .nilp, v, hr => by simp only [RepF] at *; exact hr
  | .ptr i ver k off, v, hr => by simp only [RepF] at hr
  | .fptr cs, v, hr => by
    simp only [RepF] at *
    obtain ⟨b, off, us, rfl, hb, hrd, hl⟩ := hr
    exact ⟨b, off, us, rfl, (h.fz b hb).1, reads_ext h hb hrd, RepFL.ext h cs us hl⟩
  | .nils, v, hr => by simp only [RepF] at *; exact hr
  | .sl i ver, v, hr => by simp only [RepF] at hr
  | .fsl es, v, hr => by
    simp only [RepF] at *
    obtain ⟨a, cap, hle, rfl, hr⟩ := hr
    refine ⟨a, cap, hle, rfl, hr.imp id ?_⟩
    rintro ⟨b, off, us, rfl, hb, hrd, hl⟩
    exact ⟨b, off, us, rfl, (h.fz b hb).1, reads_ext h hb hrd, RepFLL.ext h es us hl⟩
  | .mp i ver, v, hr => by simp only [RepF] at hr
  | .fmap es, v, hr => by
    simp only [RepF] at *
    refine hr.imp id ?_
    rintro ⟨b, ms, clock, rfl, hb, hm, hl⟩
    exact ⟨b, ms, clock, rfl, (h.fz b hb).1, by rw [(h.fz b hb).2]; exact hm, RepFLL.ext h es _ hl⟩
  | .nilf, v, hr => by simp only [RepF] at *; exact hr
  | .func fn first captured, v, hr => by
    simp only [RepF] at *
    obtain ⟨f, c, rfl, h1, h2⟩ := hr
    exact ⟨f, c, rfl, RepFL.ext h first _ h1, RepFL.ext h captured _ h2⟩
  | .nili, v, hr => by simp only [RepF] at *; exact hr
  | .iface t x, v, hr => by
    simp only [RepF] at *
    obtain ⟨y, rfl, hy⟩ := hr
    exact ⟨y, rfl, RepF.ext h x y hy⟩
  | .agg cs, v, hr => by
    simp only [RepF] at *
    obtain ⟨us, rfl, hl⟩ := hr
    exact ⟨us, rfl, RepFL.ext h cs _ hl⟩
  | .tuple cs, v, hr => by
    simp only [RepF] at *
    obtain ⟨us, rfl, hl⟩ := hr
    exact ⟨us, rfl, RepFL.ext h cs _ hl⟩
theorem RepFL.ext {C C' : Ctx} (h : FExt C C') : ∀ (as : List AV) (us : List Value), RepFL C as us → RepFL C' as us
  | [], us, hr => by simp only [RepFL] at *; exact hr
  | a :: as, us, hr => by
    simp only [RepFL] at *
    obtain ⟨u, r, rfl, h1, h2⟩ := hr
    exact ⟨u, r, rfl, RepF.ext h a u h1, RepFL.ext h as r h2⟩
theorem RepFLL.ext {C C' : Ctx} (h : FExt C C') : ∀ (es : List (List AV)) (us : List Value), RepFLL C es us → RepFLL C' es us
  | [], us, hr => by simp only [RepFLL] at *; exact hr
  | e :: es, us, hr => by
    simp only [RepFLL] at *
    obtain ⟨p, r, rfl, h1, h2⟩ := hr
    exact ⟨p, r, rfl, RepFL.ext h e p h1, RepFLL.ext h es r h2⟩
end
mutual
theorem RepF.repV {C : Ctx} : ∀ (a : AV) (v : Value), RepF C a v → RepV C a v
  | .any, _, h => by simp only [RepV]; exact h
  | .bool b, v, h => by simp only [RepV]; exact h
  | .int k n, v, h => by simp only [RepV]; exact h
  | .str s, v, h => by simp only [RepV]; exact h
  | .nilp, v, h => by simp only [RepV]; exact h
  | .ptr i ver k off, v, hr => by simp only [RepF] at hr
  | .fptr cs, v, h => by simp only [RepV]; exact h
  | .nils, v, h => by simp only [RepV]; exact h
  | .sl i ver, v, hr => by simp only [RepF] at hr
  | .fsl es, v, h => by simp only [RepV]; exact h
  | .mp i ver, v, hr => by simp only [RepF] at hr
  | .fmap es, v, h => by simp only [RepV]; exact h
  | .nilf, v, h => by simp only [RepV]; exact h
  | .func fn first captured, v, hr => by
    simp only [RepF] at hr
    simp only [RepV]
    obtain ⟨f, c, rfl, h1, h2⟩ := hr
    exact ⟨f, c, rfl, RepFL.repL first _ h1, RepFL.repL captured _ h2⟩
  | .nili, v, h => by simp only [RepV]; exact h
  | .iface t x, v, hr => by
    simp only [RepF] at hr
    simp only [RepV]
    obtain ⟨y, rfl, hy⟩ := hr
    exact ⟨y, rfl, RepF.repV x y hy⟩
  | .agg cs, v, hr => by
    simp only [RepF] at hr
    simp only [RepV]
    obtain ⟨us, rfl, hl⟩ := hr
    exact ⟨us, rfl, RepFL.repL cs _ hl⟩
  | .tuple cs, v, hr => by
    simp only [RepF] at hr
    simp only [RepV]
    obtain ⟨us, rfl, hl⟩ := hr
    exact ⟨us, rfl, RepFL.repL cs _ hl⟩
theorem RepFL.repL {C : Ctx} : ∀ (as : List AV) (us : List Value), RepFL C as us → RepL C as us
  | [], us, hr => by simp only [RepFL] at hr; simp only [RepL]; exact hr
  | a :: as, us, hr => by
    simp only [RepFL] at hr
    simp only [RepL]
    obtain ⟨u, r, rfl, h1, h2⟩ := hr
    exact ⟨u, r, rfl, RepF.repV a u h1, RepFL.repL as r h2⟩
end
mutual
theorem RepV.ext {C C' : Ctx} (h : Ext C C') : ∀ (a : AV) (v : Value), RepV C a v → RepV C' a v
  | .any, _, hr => by simp only [RepV] at *; exact RepF.ext h.fext _ _ hr
  | .bool b, v, hr => by simp only [RepV] at *; exact RepF.ext h.fext _ _ hr
  | .int k n, v, hr => by simp only [RepV] at *; exact RepF.ext h.fext _ _ hr
  | .str s, v, hr => by simp only [RepV] at *; exact RepF.ext h.fext _ _ hr
  | .nilp, v, hr => by simp only [RepV] at *; exact RepF.ext h.fext _ _ hr
  | .ptr i ver k off, v, hr => by
    simp only [RepV] at *
    refine ⟨hr.1, Nat.lt_of_lt_of_le hr.2.1 h.N, fun o' hl hv => ?_⟩
    obtain ⟨o, ho, e1, e2, e3⟩ := h.live i o' hl (by omega)
    obtain ⟨hz, g, hg, rfl⟩ := hr.2.2 o ho (by omega)
    exact ⟨by rw [← e2]; exact hz, g, by rw [e3]; exact hg, by rw [e2]⟩
  | .fptr cs, v, hr => by simp only [RepV] at *; exact RepF.ext h.fext _ _ hr
  | .nils, v, hr => by simp only [RepV] at *; exact RepF.ext h.fext _ _ hr
  | .sl i ver, v, hr => by
    simp only [RepV] at *
    refine ⟨hr.1, Nat.lt_of_lt_of_le hr.2.1 h.N, fun o' hl hv => ?_⟩
    obtain ⟨o, ho, e1, e2, e3⟩ := h.live i o' hl (by omega)
    rw [e3, ← e2]; exact hr.2.2 o ho (by omega)
  | .fsl es, v, hr => by simp only [RepV] at *; exact RepF.ext h.fext _ _ hr
  | .mp i ver, v, hr => by
    simp only [RepV] at *
    refine ⟨hr.1, Nat.lt_of_lt_of_le hr.2.1 h.N, fun o' hl hv => ?_⟩
    obtain ⟨o, ho, e1, e2, e3⟩ := h.live i o' hl (by omega)
    rw [e3, ← e2]; exact hr.2.2 o ho (by omega)
  | .fmap es, v, hr => by simp only [RepV] at *; exact RepF.ext h.fext _ _ hr
  | .nilf, v, hr => by simp only [RepV] at *; exact RepF.ext h.fext _ _ hr
  | .func fn first captured, v, hr => by
    simp only [RepV] at *
    obtain ⟨f, c, rfl, h1, h2⟩ := hr
    exact ⟨f, c, rfl, RepL.ext h first _ h1, RepL.ext h captured _ h2⟩
  | .nili, v, hr => by simp only [RepV] at *; exact RepF.ext h.fext _ _ hr
  | .iface t x, v, hr => by
    simp only [RepV] at *
    obtain ⟨y, rfl, hy⟩ := hr
    exact ⟨y, rfl, RepV.ext h x y hy⟩
  | .agg cs, v, hr => by
    simp only [RepV] at *
    obtain ⟨us, rfl, hl⟩ := hr
    exact ⟨us, rfl, RepL.ext h cs _ hl⟩
  | .tuple cs, v, hr => by
    simp only [RepV] at *
    obtain ⟨us, rfl, hl⟩ := hr
    exact ⟨us, rfl, RepL.ext h cs _ hl⟩
theorem RepL.ext {C C' : Ctx} (h : Ext C C') : ∀ (as : List AV) (us : List Value), RepL C as us → RepL C' as us
  | [], us, hr => by simp only [RepL] at *; exact hr
  | a :: as, us, hr => by
    simp only [RepL] at *
    obtain ⟨u, r, rfl, h1, h2⟩ := hr
    exact ⟨u, r, rfl, RepV.ext h a u h1, RepL.ext h as r h2⟩
end
theorem RepLL.ext {C C' : Ctx} (h : Ext C C') : ∀ (es : List (List AV)) (us : List Value), RepLL C es us → RepLL C' es us
  | [], us, hr => by simp only [RepLL] at *; exact hr
  | e :: es, us, hr => by
    simp only [RepLL] at *
    obtain ⟨p, r, rfl, h1, h2⟩ := hr
    exact ⟨p, r, rfl, RepL.ext h e p h1, RepLL.ext h es r h2⟩
theorem RepFL.length {C : Ctx} : ∀ {as : List AV} {us : List Value}, RepFL C as us → us.length = as.length
  | [], us, h => by simp only [RepFL] at h; simp [h]
  | a :: as, us, h => by
    simp only [RepFL] at h
    obtain ⟨u, r, rfl, _, h2⟩ := h
    simp [RepFL.length h2]
theorem RepFL.drop {C : Ctx} : ∀ {as : List AV} {us : List Value}, RepFL C as us → ∀ n, RepFL C (as.drop n) (us.drop n)
  | [], us, h, n => by simp only [RepFL] at h; subst h; simp [RepFL]
  | a :: as, us, h, n => by
    cases n with
    | zero => exact h
    | succ n =>
      simp only [RepFL] at h
      obtain ⟨x, r, rfl, h1, h2⟩ := h
      simpa using RepFL.drop h2 n
theorem RepFL.take {C : Ctx} : ∀ {as : List AV} {us : List Value}, RepFL C as us → ∀ n, RepFL C (as.take n) (us.take n)
  | [], us, h, n => by simp only [RepFL] at h; subst h; simp [RepFL]
  | a :: as, us, h, n => by
    simp only [RepFL] at h
    obtain ⟨x, r, rfl, h1, h2⟩ := h
    cases n with
    | zero => simp [RepFL]
    | succ n => simp only [List.take_succ_cons, RepFL]; exact ⟨x, _, rfl, h1, RepFL.take h2 n⟩
theorem RepFLL.length {C : Ctx} {sz : Nat} : ∀ {es : List (List AV)} {us : List Value}, RepFLL C es us → (∀ e ∈ es, e.length = sz) → us.length = es.length * sz
  | [], us, h, _ => by simp only [RepFLL] at h; simp [h]
  | e :: es, us, h, hs => by
    simp only [RepFLL] at h
    obtain ⟨p, r, rfl, h1, h2⟩ := h
    have := RepFLL.length h2 (fun x hx => hs x (by simp [hx]))
    simp [RepFL.length h1, this, hs e (by simp), Nat.add_mul, Nat.add_comm]
theorem RepFLL.get {C : Ctx} {sz : Nat} : ∀ {es : List (List AV)} {us : List Value}, RepFLL C es us → (∀ e ∈ es, e.length = sz) → ∀ {k : Nat} {e : List AV}, es[k]? = some e →
    RepFL C e ((us.drop (k * sz)).take sz)
  | [], us, h, _, k, e, he => by simp at he
  | x :: es, us, h, hs, k, e, he => by
    simp only [RepFLL] at h
    obtain ⟨p, r, rfl, h1, h2⟩ := h
    have hp : p.length = sz := (RepFL.length h1).trans (hs x (by simp))
    cases k with
    | zero => simp at he; subst he; simpa [hp.symm] using h1
    | succ k =>
      have := RepFLL.get h2 (fun y hy => hs y (by simp [hy])) (k := k) (by simpa using he)
      have e2 : (p ++ r).drop ((k + 1) * sz) = r.drop (k * sz) := by
        rw [Nat.add_mul, Nat.one_mul, Nat.add_comm, ← hp, List.drop_append]; simp
      rw [e2]; exact this
theorem RepFLL.drop {C : Ctx} {sz : Nat} : ∀ {es : List (List AV)} {us : List Value}, RepFLL C es us → (∀ e ∈ es, e.length = sz) → ∀ (k : Nat), RepFLL C (es.drop k) (us.drop (k * sz))
  | [], us, h, _, k => by simp only [RepFLL] at h; subst h; simp [RepFLL]
  | x :: es, us, h, hs, k => by
    cases k with
    | zero => simpa using h
    | succ k =>
      simp only [RepFLL] at h
      obtain ⟨p, r, rfl, h1, h2⟩ := h
      have hp : p.length = sz := (RepFL.length h1).trans (hs x (by simp))
      have e2 : (p ++ r).drop ((k + 1) * sz) = r.drop (k * sz) := by
        rw [Nat.add_mul, Nat.one_mul, Nat.add_comm, ← hp, List.drop_append]; simp
      rw [e2]; simpa using RepFLL.drop h2 (fun y hy => hs y (by simp [hy])) k
theorem RepFLL.take {C : Ctx} {sz : Nat} : ∀ {es : List (List AV)} {us : List Value}, RepFLL C es us → (∀ e ∈ es, e.length = sz) → ∀ (k : Nat), RepFLL C (es.take k) (us.take (k * sz))
  | [], us, h, _, k => by simp only [RepFLL] at h; subst h; simp [RepFLL]
  | x :: es, us, h, hs, k => by
    cases k with
    | zero => simp [RepFLL]
    | succ k =>
      simp only [RepFLL] at h
      obtain ⟨p, r, rfl, h1, h2⟩ := h
      have hp : p.length = sz := (RepFL.length h1).trans (hs x (by simp))
      have e2 : (p ++ r).take ((k + 1) * sz) = p ++ r.take (k * sz) := by
        rw [Nat.add_mul, Nat.one_mul, Nat.add_comm, ← hp, List.take_append]
        rw [List.take_of_length_le (by omega)]; simp
      rw [e2]; simp only [List.take_succ_cons, RepFLL]
      exact ⟨p, _, rfl, h1, RepFLL.take h2 (fun y hy => hs y (by simp [hy])) k⟩
theorem RepL.length {C : Ctx} : ∀ {as : List AV} {us : List Value}, RepL C as us → us.length = as.length
  | [], us, h => by simp only [RepL] at h; simp [h]
  | a :: as, us, h => by
    simp only [RepL] at h
    obtain ⟨u, r, rfl, _, h2⟩ := h
    simp [RepL.length h2]
theorem RepL.get {C : Ctx} : ∀ {as : List AV} {us : List Value}, RepL C as us → ∀ {i : Nat} {a : AV}, as[i]? = some a → ∃ u, us[i]? = some u ∧ RepV C a u
  | [], us, h, i, a, ha => by simp at ha
  | a :: as, us, h, i, x, ha => by
    simp only [RepL] at h
    obtain ⟨u, r, rfl, h1, h2⟩ := h
    cases i with
    | zero => simp at ha; subst ha; exact ⟨u, by simp, h1⟩
    | succ i => simpa using RepL.get h2 (by simpa using ha)
theorem RepL.set {C : Ctx} : ∀ {as : List AV} {us : List Value}, RepL C as us → ∀ (i : Nat) {a : AV} {u : Value}, RepV C a u → RepL C (as.set i a) (us.set i u)
  | [], us, h, i, a, u, hu => by simp only [RepL] at h; subst h; simp [RepL]
  | b :: as, us, h, i, a, u, hu => by
    simp only [RepL] at h
    obtain ⟨x, r, rfl, h1, h2⟩ := h
    cases i with
    | zero => simp only [List.set_cons_zero, RepL]; exact ⟨u, r, rfl, hu, h2⟩
    | succ i => simp only [List.set_cons_succ, RepL]; exact ⟨x, _, rfl, h1, RepL.set h2 i hu⟩
theorem RepL.append {C : Ctx} : ∀ {as bs : List AV} {us vs : List Value}, RepL C as us → RepL C bs vs → RepL C (as ++ bs) (us ++ vs)
  | [], bs, us, vs, h, k => by simp only [RepL] at h; subst h; simpa using k
  | a :: as, bs, us, vs, h, k => by
    simp only [RepL] at h
    obtain ⟨x, r, rfl, h1, h2⟩ := h
    simp only [List.cons_append, RepL]
    exact ⟨x, _, rfl, h1, RepL.append h2 k⟩
theorem RepL.take {C : Ctx} : ∀ {as : List AV} {us : List Value}, RepL C as us → ∀ n, RepL C (as.take n) (us.take n)
  | [], us, h, n => by simp only [RepL] at h; subst h; simp [RepL]
  | a :: as, us, h, n => by
    simp only [RepL] at h
    obtain ⟨x, r, rfl, h1, h2⟩ := h
    cases n with
    | zero => simp [RepL]
    | succ n => simp only [List.take_succ_cons, RepL]; exact ⟨x, _, rfl, h1, RepL.take h2 n⟩
theorem RepL.drop {C : Ctx} : ∀ {as : List AV} {us : List Value}, RepL C as us → ∀ n, RepL C (as.drop n) (us.drop n)
  | [], us, h, n => by simp only [RepL] at h; subst h; simp [RepL]
  | a :: as, us, h, n => by
    cases n with
    | zero => exact h
    | succ n =>
      simp only [RepL] at h
      obtain ⟨x, r, rfl, h1, h2⟩ := h
      simpa using RepL.drop h2 n
theorem RepL.replicate_any (C : Ctx) : ∀ (us : List Value), RepL C (List.replicate us.length .any) us
  | [] => by simp [RepL]
  | u :: us => by simp only [List.length_cons, List.replicate_succ, RepL]; exact ⟨u, us, rfl, by simp [RepV, RepF], RepL.replicate_any C us⟩
theorem RepLL.append {C : Ctx} : ∀ {as bs : List (List AV)} {us vs : List Value}, RepLL C as us → RepLL C bs vs → RepLL C (as ++ bs) (us ++ vs)
  | [], bs, us, vs, h, k => by simp only [RepLL] at h; subst h; simpa using k
  | a :: as, bs, us, vs, h, k => by
    simp only [RepLL] at h
    obtain ⟨x, r, rfl, h1, h2⟩ := h
    simp only [List.cons_append, RepLL]
    exact ⟨x, _, by simp, h1, RepLL.append h2 k⟩
theorem RepLL.length {C : Ctx} {sz : Nat} : ∀ {es : List (List AV)} {us : List Value}, RepLL C es us → (∀ e ∈ es, e.length = sz) → us.length = es.length * sz
  | [], us, h, _ => by simp only [RepLL] at h; simp [h]
  | e :: es, us, h, hs => by
    simp only [RepLL] at h
    obtain ⟨p, r, rfl, h1, h2⟩ := h
    have := RepLL.length h2 (fun x hx => hs x (by simp [hx]))
    simp [RepL.length h1, this, hs e (by simp), Nat.add_mul, Nat.add_comm]
theorem RepLL.get {C : Ctx} {sz : Nat} : ∀ {es : List (List AV)} {us : List Value}, RepLL C es us → (∀ e ∈ es, e.length = sz) → ∀ {k : Nat} {e : List AV}, es[k]? = some e →
    RepL C e ((us.drop (k * sz)).take sz)
  | [], us, h, _, k, e, he => by simp at he
  | x :: es, us, h, hs, k, e, he => by
    simp only [RepLL] at h
    obtain ⟨p, r, rfl, h1, h2⟩ := h
    have hp : p.length = sz := (RepL.length h1).trans (hs x (by simp))
    cases k with
    | zero => simp at he; subst he; simpa [hp.symm] using h1
    | succ k =>
      have := RepLL.get h2 (fun y hy => hs y (by simp [hy])) (k := k) (by simpa using he)
      have e2 : (p ++ r).drop ((k + 1) * sz) = r.drop (k * sz) := by
        rw [Nat.add_mul, Nat.one_mul, Nat.add_comm, ← hp, List.drop_append]; simp
      rw [e2]; exact this
theorem RepLL.set {C : Ctx} {sz : Nat} : ∀ {es : List (List AV)} {us : List Value}, RepLL C es us → (∀ e ∈ es, e.length = sz) → ∀ {k : Nat} {e : List AV} {p : List Value}, k < es.length → e.length = sz → RepL C e p →
    RepLL C (es.set k e) (us.take (k * sz) ++ p ++ us.drop (k * sz + sz))
  | [], us, h, _, k, e, p, hk, _, _ => by simp at hk
  | x :: es, us, h, hs, k, e, p, hk, he, hp => by
    simp only [RepLL] at h
    obtain ⟨q, r, rfl, h1, h2⟩ := h
    have hq : q.length = sz := (RepL.length h1).trans (hs x (by simp))
    cases k with
    | zero => simp only [List.set_cons_zero, RepLL]; exact ⟨p, r, by simp [← hq], hp, h2⟩
    | succ k =>
      have := RepLL.set h2 (fun y hy => hs y (by simp [hy])) (k := k) (by simpa using hk) he hp
      simp only [List.set_cons_succ, RepLL]
      refine ⟨q, _, ?_, h1, this⟩
      have e1 : (q ++ r).take ((k + 1) * sz) = q ++ r.take (k * sz) := by
        rw [Nat.add_mul, Nat.one_mul, Nat.add_comm, ← hq, List.take_append]
        rw [List.take_of_length_le (by omega)]; simp
      have e2 : (q ++ r).drop ((k + 1) * sz + sz) = r.drop (k * sz + sz) := by
        rw [show (k + 1) * sz + sz = q.length + (k * sz + sz) by rw [Nat.add_mul, hq]; omega, List.drop_append]; simp
      rw [e1, e2]; simp
end Go.Abs
/- How the clean state follows the world's steps: a new object, an object written, a draw. -/
namespace Go.Abs
open Go
section
variable {G : Globs} {C : Ctx}
theorem own_lt {C : Ctx} {i : Nat} {o : AObj} (hg : Good G C) (h : C.live i o) : ∀ g, (C.io i).ownBlock = some g → g < C.w.heap.size := by
  intro g hgb
  obtain ⟨_, _, _, xs, hown, _⟩ := hg.obj i o h
  exact hown.lt hgb
def Ctx.inW (C : Ctx) (w : World) : Ctx := { C with w }
theorem fz_inW {w : World} (hh : w.heap = C.w.heap) (b : Nat) : (C.inW w).fz b ↔ C.fz b := by
  unfold Ctx.fz Ctx.inW Ctx.live; simp [hh]
theorem ext_inW {w : World} (hh : w.heap = C.w.heap) (h1 : w.os = C.w.os) (h2 : w.tape = C.w.tape) (h3 : w.output = C.w.output) : Ext C (C.inW w) :=
  ⟨h1, h2, h3, by simp [Ctx.inW, hh], Nat.le_refl _, rfl, fun b _ => by simp [Ctx.inW, hh], fun i o h _ => ⟨o, h, rfl, rfl, rfl⟩, fun b hb => ⟨(fz_inW hh b).2 hb, by simp [Ctx.inW, hh]⟩⟩
theorem good_inW {w : World} (hg : Good G C) (hh : w.heap = C.w.heap) (h1 : w.os = C.w.os) (h2 : w.tape = C.w.tape) (h3 : w.output = C.w.output) : Good G (C.inW w) := by
  have he := ext_inW (C := C) hh h1 h2 h3
  refine ⟨fun i o hl => ?_, hg.apart, hg.own, fun b hb => by simp only [Ctx.inW, hh]; exact hg.out b hb, fun p hp => ?_⟩
  · obtain ⟨a1, a2, a3, xs, a4, a5, a6⟩ := hg.obj i o hl
    refine ⟨a1, a2, a3, xs, ?_, RepLL.ext he _ _ a5, a6⟩
    exact a4.same fun g _ => by simp [Ctx.inW, hh]
  · obtain ⟨us, b1, b2, b3⟩ := hg.glob p hp
    exact ⟨us, (he.fz _ b1).1, readsG_ext he.fext b1 b2, RepFL.ext he.fext _ _ b3⟩
def Ctx.push (C : Ctx) (w : World) (o : AObj) (v : Value) : Ctx :=
  { w, s := C.s ++ [some o], io := fun i => if i = C.s.length then v else C.io i, N := C.N + 1, F := C.F }
theorem push_live {w : World} {o : AObj} {v : Value} {i : Nat} {x : AObj} (h : (C.push w o v).live i x) : (i < C.s.length ∧ C.live i x) ∨ (i = C.s.length ∧ x = o) := by
  unfold Ctx.live Ctx.push at h
  rw [List.getElem?_append] at h
  split at h
  · rename_i hi; exact .inl ⟨hi, h⟩
  · rename_i hi
    right
    have : i - C.s.length = 0 := by
      rcases Nat.eq_zero_or_pos (i - C.s.length) with h0 | h0
      · exact h0
      · rw [List.getElem?_eq_none (by simp; omega)] at h; cases h
    rw [this] at h
    simp at h
    exact ⟨by omega, h.symm⟩
theorem live_lt {i : Nat} {o : AObj} (h : C.live i o) : i < C.s.length := (List.getElem?_eq_some_iff.1 h).1
theorem ext_push {w : World} {o : AObj} {v : Value} (hg : Good G C) (hgrow : C.w.grownBy w none) (hv : o.ver = C.N) (hfresh : ∀ g, v.ownBlock = some g → C.w.heap.size ≤ g) : Ext C (C.push w o v) := by
  refine ⟨hgrow.os, hgrow.tape, hgrow.output, hgrow.size, Nat.le_succ _, rfl, fun b hb => hgrow.block b (hg.out b hb) (by simp), fun i o' hl hlt => ?_, fun b hb => ⟨⟨Nat.lt_of_lt_of_le hb.1 hgrow.size, fun i o' hl => ?_, hb.2.2⟩, hgrow.block b hb.1 (by simp)⟩⟩
  · rcases push_live hl with ⟨hi, hl⟩ | ⟨_, rfl⟩
    · exact ⟨o', hl, rfl, rfl, by simp [Ctx.push, Nat.ne_of_lt hi]⟩
    · omega
  · rcases push_live hl with ⟨hi, hl⟩ | ⟨rfl, rfl⟩
    · simp only [Ctx.push, Nat.ne_of_lt hi, if_false]; exact hb.2.1 i o' hl
    · simp only [Ctx.push, if_true]
      intro h
      have := hfresh b h
      have := hb.1
      omega
theorem good_push' {w : World} {o : AObj} {v : Value} {xs : List Value} (hg : Good G C) (hgrow : C.w.grownBy w none) (hv : o.ver = C.N) (hfresh : ∀ g, v.ownBlock = some g → C.w.heap.size ≤ g)
    (hes : ∀ e ∈ o.es, e.length = wd o.sz) (hown : owns w o.t o.sz v o.es.length xs) (hrep : RepLL C o.es xs) (hone : ∀ x ∈ xs, x.oneCell' = true) : Good G (C.push w o v) := by
  have he := ext_push (o := o) (v := v) hg hgrow hv hfresh
  have hlt : ∀ i x, C.live i x → ∀ g, (C.io i).ownBlock = some g → g < C.w.heap.size := fun i x hl g h => own_lt hg hl g h
  refine ⟨fun i x hl => ?_, fun i j x y hx hy hij g h1 h2 => ?_, fun i x hx g h hF => ?_, fun b hb => Nat.lt_of_lt_of_le (hg.out b hb) hgrow.size, fun p hp => ?_⟩
  · rcases push_live hl with ⟨hi, hl⟩ | ⟨rfl, rfl⟩
    · obtain ⟨a1, a2, a3, ys, a4, a5, a6⟩ := hg.obj i x hl
      refine ⟨Nat.lt_succ_of_lt a1, a2, a3, ys, ?_, RepLL.ext he _ _ a5, a6⟩
      simp only [Ctx.push, Nat.ne_of_lt hi, if_false]
      exact a4.kept hgrow (by cases h : (C.io i).ownBlock <;> simp)
    · refine ⟨by simp only [Ctx.push]; omega, wd_pos _, hes, xs, ?_, RepLL.ext he _ _ hrep, hone⟩
      simp only [Ctx.push, if_true]; exact hown
  · rcases push_live hx with ⟨hi, hl⟩ | ⟨rfl, rfl⟩ <;> rcases push_live hy with ⟨hj, hl'⟩ | ⟨hj, rfl⟩
    · simp only [Ctx.push, Nat.ne_of_lt hi, Nat.ne_of_lt hj, if_false] at h1 h2
      exact hg.apart i j x y hl hl' hij g h1 h2
    · subst hj
      simp only [Ctx.push, Nat.ne_of_lt hi, if_false, if_true] at h1 h2
      have := hlt i x hl g h1
      have := hfresh g h2
      omega
    · simp only [Ctx.push, Nat.ne_of_lt hj, if_false, if_true] at h1 h2
      have := hlt j y hl' g h2
      have := hfresh g h1
      omega
    · exact hij hj.symm
  · rcases push_live hx with ⟨hi, hl⟩ | ⟨rfl, rfl⟩
    · simp only [Ctx.push, Nat.ne_of_lt hi, if_false] at h
      exact hg.own i x hl g h hF
    · simp only [Ctx.push, if_true] at h
      have := hfresh g h
      have := hg.out g hF
      omega
  · obtain ⟨us, b1, b2, b3⟩ := hg.glob p hp
    exact ⟨us, (he.fz _ b1).1, readsG_ext he.fext b1 b2, RepFL.ext he.fext _ _ b3⟩
theorem good_push {w : World} {o : AObj} {v : Value} {xs : List Value} (hg : Good G C) (hgrow : C.w.grownBy w none) (hv : o.ver = C.N) (hfresh : ∀ g, v.ownBlock = some g → C.w.heap.size ≤ g)
    (hsz : 0 < o.sz) (hes : ∀ e ∈ o.es, e.length = o.sz) (hown : w.ownsRow 0 o.t o.sz v o.es.length xs) (hrep : RepLL C o.es xs) (hone : ∀ x ∈ xs, x.oneCell' = true) : Good G (C.push w o v) :=
  good_push' hg hgrow hv hfresh (by rw [wd_of hsz]; exact hes) (owns_of hsz hown) hrep hone
def Ctx.repl (C : Ctx) (w : World) (i : Nat) (o : AObj) (v : Value) : Ctx :=
  { w, s := C.s.set i (some o), io := fun j => if j = i then v else C.io j, N := C.N + 1, F := C.F }
theorem repl_live {w : World} {i : Nat} {o : AObj} {v : Value} {j : Nat} {x : AObj} (h : (C.repl w i o v).live j x) : (j ≠ i ∧ C.live j x) ∨ (j = i ∧ x = o) := by
  unfold Ctx.live Ctx.repl at h
  rw [List.getElem?_set] at h
  split at h
  · rename_i hi
    subst hi
    split at h
    · simp at h; exact .inr ⟨rfl, h.symm⟩
    · cases h
  · rename_i hi; exact .inl ⟨fun e => hi e.symm, h⟩
theorem ext_repl {w : World} {i : Nat} {o p : AObj} {v : Value} (hg : Good G C) (hp : C.live i p) (hgrow : C.w.grownBy w (C.io i).ownBlock)
    (hv : o.ver = C.N ∨ (o.ver = p.ver ∧ o.sz = p.sz ∧ v = C.io i)) (hfresh : ∀ g, v.ownBlock = some g → C.w.heap.size ≤ g ∨ (C.io i).ownBlock = some g) : Ext C (C.repl w i o v) := by
  have hne : ∀ b, (b < C.w.heap.size) → (C.io i).ownBlock ≠ some b → w.heap[b]? = C.w.heap[b]? := fun b h1 h2 => hgrow.block b h1 (fun e => h2 e.symm)
  refine ⟨hgrow.os, hgrow.tape, hgrow.output, hgrow.size, Nat.le_succ _, rfl, fun b hb => hne b (hg.out b hb) (fun e => hg.own i p hp b e hb), fun j o' hl hlt => ?_,
    fun b hb => ⟨⟨Nat.lt_of_lt_of_le hb.1 hgrow.size, fun j o' hl => ?_, hb.2.2⟩, hne b hb.1 (hb.2.1 i p hp)⟩⟩
  · rcases repl_live hl with ⟨hi, hl⟩ | ⟨rfl, rfl⟩
    · exact ⟨o', hl, rfl, rfl, by simp [Ctx.repl, hi]⟩
    · rcases hv with hv | ⟨hv, hs, rfl⟩
      · omega
      · exact ⟨p, hp, hv.symm, hs.symm, by simp [Ctx.repl]⟩
  · rcases repl_live hl with ⟨hi, hl⟩ | ⟨rfl, rfl⟩
    · simp only [Ctx.repl, hi, if_false]; exact hb.2.1 j o' hl
    · simp only [Ctx.repl, if_true]
      intro h
      rcases hfresh b h with h | h
      · have := hb.1; omega
      · exact hb.2.1 _ p hp h
theorem good_repl' {w : World} {i : Nat} {o p : AObj} {v : Value} {xs : List Value} (hg : Good G C) (hp : C.live i p) (hgrow : C.w.grownBy w (C.io i).ownBlock)
    (hv : o.ver = C.N ∨ (o.ver = p.ver ∧ o.sz = p.sz ∧ v = C.io i)) (hfresh : ∀ g, v.ownBlock = some g → C.w.heap.size ≤ g ∨ (C.io i).ownBlock = some g)
    (hes : ∀ e ∈ o.es, e.length = wd o.sz) (hown : owns w o.t o.sz v o.es.length xs) (hrep : RepLL C o.es xs) (hone : ∀ x ∈ xs, x.oneCell' = true) : Good G (C.repl w i o v) := by
  have he := ext_repl (o := o) (v := v) hg hp hgrow hv hfresh
  have hpv := (hg.obj i p hp).1
  refine ⟨fun j x hl => ?_, fun j k x y hx hy hij g h1 h2 => ?_, fun j x hx g h hF => ?_, fun b hb => Nat.lt_of_lt_of_le (hg.out b hb) hgrow.size, fun p hp => ?_⟩
  · rcases repl_live hl with ⟨hi, hl⟩ | ⟨rfl, rfl⟩
    · obtain ⟨a1, a2, a3, ys, a4, a5, a6⟩ := hg.obj j x hl
      refine ⟨Nat.lt_succ_of_lt a1, a2, a3, ys, ?_, RepLL.ext he _ _ a5, a6⟩
      simp only [Ctx.repl, hi, if_false]
      refine a4.kept hgrow ?_
      cases h : (C.io j).ownBlock with
      | none => exact .inl rfl
      | some g => exact .inr (fun e => hg.apart j i x p hl hp hi g h e.symm)
    · refine ⟨by simp only [Ctx.repl]; omega, wd_pos _, hes, xs, ?_, RepLL.ext he _ _ hrep, hone⟩
      simp only [Ctx.repl, if_true]; exact hown
  · rcases repl_live hx with ⟨hi, hl⟩ | ⟨rfl, rfl⟩ <;> rcases repl_live hy with ⟨hj, hl'⟩ | ⟨hj, rfl⟩
    · simp only [Ctx.repl, hi, hj, if_false] at h1 h2
      exact hg.apart j k x y hl hl' hij g h1 h2
    · subst hj
      simp only [Ctx.repl, hi, if_false, if_true] at h1 h2
      rcases hfresh g h2 with h | h
      · have := own_lt hg hl g h1; omega
      · exact hg.apart j _ x p hl hp hi g h1 h
    · simp only [Ctx.repl, hj, if_false, if_true] at h1 h2
      rcases hfresh g h1 with h | h
      · have := own_lt hg hl' g h2; omega
      · exact hg.apart _ k p y hp hl' (fun e => hj e.symm) g h h2
    · exact hij hj.symm
  · rcases repl_live hx with ⟨hi, hl⟩ | ⟨rfl, rfl⟩
    · simp only [Ctx.repl, hi, if_false] at h
      exact hg.own j x hl g h hF
    · simp only [Ctx.repl, if_true] at h
      rcases hfresh g h with h | h
      · have := hg.out g hF; omega
      · exact hg.own _ p hp g h hF
  · obtain ⟨us, b1, b2, b3⟩ := hg.glob p hp
    exact ⟨us, (he.fz _ b1).1, readsG_ext he.fext b1 b2, RepFL.ext he.fext _ _ b3⟩
theorem good_repl {w : World} {i : Nat} {o p : AObj} {v : Value} {xs : List Value} (hg : Good G C) (hp : C.live i p) (hgrow : C.w.grownBy w (C.io i).ownBlock)
    (hv : o.ver = C.N ∨ (o.ver = p.ver ∧ o.sz = p.sz ∧ v = C.io i)) (hfresh : ∀ g, v.ownBlock = some g → C.w.heap.size ≤ g ∨ (C.io i).ownBlock = some g)
    (hsz : 0 < o.sz) (hes : ∀ e ∈ o.es, e.length = o.sz) (hown : w.ownsRow 0 o.t o.sz v o.es.length xs) (hrep : RepLL C o.es xs) (hone : ∀ x ∈ xs, x.oneCell' = true) : Good G (C.repl w i o v) :=
  good_repl' hg hp hgrow hv hfresh (by rw [wd_of hsz]; exact hes) (owns_of hsz hown) hrep hone
def Ctx.free (C : Ctx) (i : Nat) : Ctx := { C with s := C.s.set i none }
theorem free_live {i j : Nat} {x : AObj} (h : (C.free i).live j x) : j ≠ i ∧ C.live j x := by
  unfold Ctx.live Ctx.free at h
  rw [List.getElem?_set] at h
  split at h
  · split at h <;> simp at h
  · rename_i hi; exact ⟨fun e => hi e.symm, h⟩
theorem ext_free (i : Nat) : Ext C (C.free i) :=
  ⟨rfl, rfl, rfl, Nat.le_refl _, Nat.le_refl _, rfl, fun _ _ => rfl, fun j o h _ => ⟨o, (free_live h).2, rfl, rfl, rfl⟩, fun b hb => ⟨⟨hb.1, fun j o h => hb.2.1 j o (free_live h).2, hb.2.2⟩, rfl⟩⟩
theorem good_free (hg : Good G C) (i : Nat) : Good G (C.free i) := by
  refine ⟨fun j o h => ?_, fun j k x y hx hy => hg.apart j k x y (free_live hx).2 (free_live hy).2, fun j x hx => hg.own j x (free_live hx).2, hg.out, fun p hp => ?_⟩
  · obtain ⟨a1, a2, a3, ys, a4, a5, a6⟩ := hg.obj j o (free_live h).2
    exact ⟨a1, a2, a3, ys, a4, RepLL.ext (ext_free i) _ _ a5, a6⟩
  · obtain ⟨us, b1, b2, b3⟩ := hg.glob p hp
    exact ⟨us, ((ext_free i).fz _ b1).1, readsG_ext (ext_free i).fext b1 b2, RepFL.ext (ext_free i).fext _ _ b3⟩
def Ctx.cut (C : Ctx) (n : Nat) : Ctx := { C with s := C.s.take n }
theorem cut_live {n j : Nat} {x : AObj} (h : (C.cut n).live j x) : C.live j x := by
  unfold Ctx.live Ctx.cut at h
  rw [List.getElem?_take] at h
  split at h
  · exact h
  · cases h
theorem ext_cut (n : Nat) : Ext C (C.cut n) :=
  ⟨rfl, rfl, rfl, Nat.le_refl _, Nat.le_refl _, rfl, fun _ _ => rfl, fun j o h _ => ⟨o, cut_live h, rfl, rfl, rfl⟩, fun b hb => ⟨⟨hb.1, fun j o h => hb.2.1 j o (cut_live h), hb.2.2⟩, rfl⟩⟩
theorem good_cut (hg : Good G C) (n : Nat) : Good G (C.cut n) := by
  refine ⟨fun j o h => ?_, fun j k x y hx hy => hg.apart j k x y (cut_live hx) (cut_live hy), fun j x hx => hg.own j x (cut_live hx), hg.out, fun p hp => ?_⟩
  · obtain ⟨a1, a2, a3, ys, a4, a5, a6⟩ := hg.obj j o (cut_live h)
    exact ⟨a1, a2, a3, ys, a4, RepLL.ext (ext_cut n) _ _ a5, a6⟩
  · obtain ⟨us, b1, b2, b3⟩ := hg.glob p hp
    exact ⟨us, ((ext_cut n).fz _ b1).1, readsG_ext (ext_cut n).fext b1 b2, RepFL.ext (ext_cut n).fext _ _ b3⟩
mutual
def closed : AV → Bool
  | .ptr .. | .sl .. | .mp .. => false
  | .func _ f c => closedL f && closedL c
  | .iface _ x => closed x
  | .agg cs => closedL cs
  | .tuple cs => closedL cs
  | _ => true
def closedL : List AV → Bool
  | [] => true
  | a :: as => closed a && closedL as
end
def closedLL : List (List AV) → Bool
  | [] => true
  | e :: es => closedL e && closedLL es
mutual
theorem RepV.repF : ∀ (a : AV) (v : Value), closed a = true → RepV C a v → RepF C a v
  | .any, _, _, h => by simp only [RepV] at h; exact h
  | .bool b, v, _, h => by simp only [RepV] at h; exact h
  | .int k n, v, _, h => by simp only [RepV] at h; exact h
  | .str s, v, _, h => by simp only [RepV] at h; exact h
  | .nilp, v, _, h => by simp only [RepV] at h; exact h
  | .ptr i ver k off, v, hc, _ => by simp [closed] at hc
  | .fptr cs, v, _, h => by simp only [RepV] at h; exact h
  | .nils, v, _, h => by simp only [RepV] at h; exact h
  | .sl i ver, v, hc, _ => by simp [closed] at hc
  | .fsl es, v, _, h => by simp only [RepV] at h; exact h
  | .mp i ver, v, hc, _ => by simp [closed] at hc
  | .fmap es, v, _, h => by simp only [RepV] at h; exact h
  | .nilf, v, _, h => by simp only [RepV] at h; exact h
  | .func fn first captured, v, hc, hr => by
    simp only [RepV] at hr
    simp only [RepF]
    simp only [closed, Bool.and_eq_true] at hc
    obtain ⟨f, c, rfl, h1, h2⟩ := hr
    exact ⟨f, c, rfl, RepL.repFL first _ hc.1 h1, RepL.repFL captured _ hc.2 h2⟩
  | .nili, v, _, h => by simp only [RepV] at h; exact h
  | .iface t x, v, hc, hr => by
    simp only [RepV] at hr
    simp only [RepF]
    simp only [closed] at hc
    obtain ⟨y, rfl, hy⟩ := hr
    exact ⟨y, rfl, RepV.repF x y hc hy⟩
  | .agg cs, v, hc, hr => by
    simp only [RepV] at hr
    simp only [RepF]
    simp only [closed] at hc
    obtain ⟨us, rfl, hl⟩ := hr
    exact ⟨us, rfl, RepL.repFL cs _ hc hl⟩
  | .tuple cs, v, hc, hr => by
    simp only [RepV] at hr
    simp only [RepF]
    simp only [closed] at hc
    obtain ⟨us, rfl, hl⟩ := hr
    exact ⟨us, rfl, RepL.repFL cs _ hc hl⟩
theorem RepL.repFL : ∀ (as : List AV) (us : List Value), closedL as = true → RepL C as us → RepFL C as us
  | [], us, _, hr => by simp only [RepL] at hr; simp only [RepFL]; exact hr
  | a :: as, us, hc, hr => by
    simp only [RepL] at hr
    simp only [RepFL]
    simp only [closedL, Bool.and_eq_true] at hc
    obtain ⟨u, r, rfl, h1, h2⟩ := hr
    exact ⟨u, r, rfl, RepV.repF a u hc.1 h1, RepL.repFL as r hc.2 h2⟩
end
theorem RepLL.repFLL : ∀ (es : List (List AV)) (us : List Value), closedLL es = true → RepLL C es us → RepFLL C es us
  | [], us, _, hr => by simp only [RepLL] at hr; simp only [RepFLL]; exact hr
  | e :: es, us, hc, hr => by
    simp only [RepLL] at hr
    simp only [RepFLL]
    simp only [closedLL, Bool.and_eq_true] at hc
    obtain ⟨p, r, rfl, h1, h2⟩ := hr
    exact ⟨p, r, rfl, RepL.repFL e p hc.1 h1, RepLL.repFLL es r hc.2 h2⟩
theorem RepV.freeze {i ver : Nat} {o : AObj} {v : Value} (hg : Good G C) (hl : C.live i o) (hver : o.ver = ver) (hc : closedLL o.es = true) (hr : RepV C (.sl i ver) v) : RepV (C.free i) (.fsl o.es) v := by
  simp only [RepV] at hr
  obtain ⟨hz, hv⟩ := hr.2.2 o hl hver
  obtain ⟨_, _, hes, xs, hown, hrep, _⟩ := hg.obj i o hl
  have hown := hown.row hz
  simp only [RepV, RepF]
  rcases hown.2 with ⟨h1, h2⟩ | ⟨g, cap, cur, h1, _, hgc, hncap, _, _, htake⟩
  · refine ⟨none, 0, by omega, by rw [hv, h1, h2], .inl ⟨List.eq_nil_of_length_eq_zero h2, fun _ => rfl⟩⟩
  · refine ⟨_, cap, hncap, by rw [hv, h1], .inr ⟨g, 0, xs, rfl, ⟨(own_lt hg hl g (by rw [h1]; rfl)), fun j x hj => ?_, fun hF => hg.own i o hl g (by rw [h1]; rfl) hF⟩, fun j u hu => ?_, ?_⟩⟩
    · obtain ⟨hne, hj⟩ := free_live hj
      exact hg.apart i j o x hl hj (fun e => hne e.symm) g (by rw [h1]; rfl)
    · have := hown.cells (g := g) (by rw [h1]; rfl) j u hu
      rw [Addr.add_lit] at this
      exact this
    · exact RepFLL.ext (ext_free i).fext _ _ (RepLL.repFLL o.es xs hc hrep)
theorem RepV.freezeP {i ver : Nat} {o : AObj} {v : Value} {cs : List AV} (hg : Good G C) (hl : C.live i o) (hver : o.ver = ver) (he : o.es = [cs]) (hc : closedLL o.es = true) (hr : RepV C (.ptr i ver 0 0) v) : RepV (C.free i) (.fptr cs) v := by
  simp only [RepV] at hr
  obtain ⟨hz, g, hgb, rfl⟩ := hr.2.2 o hl hver
  obtain ⟨_, _, hes, xs, hown, hrep, _⟩ := hg.obj i o hl
  have hown := hown.row hz
  have hF := RepFLL.ext (ext_free (C := C) i).fext _ _ (RepLL.repFLL o.es xs hc hrep)
  rw [he] at hF
  simp only [RepFLL] at hF
  obtain ⟨p, r, rfl, h1, rfl⟩ := hF
  simp only [RepV, RepF]
  refine ⟨g, 0 * o.sz + 0, p, rfl, ⟨own_lt hg hl g hgb, fun j x hj => ?_, fun hF => hg.own i o hl g hgb hF⟩, fun j u hu => ?_, h1⟩
  · obtain ⟨hne, hj⟩ := free_live hj
    exact hg.apart i j o x hl hj (fun e => hne e.symm) g hgb
  · have := hown.cells (g := g) hgb j u (by simpa using hu)
    rw [Addr.add_lit] at this
    simp only [Nat.zero_mul, Nat.zero_add] at this ⊢
    exact this
theorem repV_push {w : World} {o : AObj} {v : Value} (hz : 0 < o.sz) (hv : ∃ a l c, v = .slice a l c) : RepV (C.push w o v) (.sl C.s.length C.N) v := by
  simp only [RepV]
  refine ⟨hv, by simp [Ctx.push], fun x hx _ => ?_⟩
  rcases push_live hx with ⟨hlt, _⟩ | ⟨_, rfl⟩
  · omega
  · exact ⟨hz, by simp [Ctx.push]⟩
theorem repV_repl {w : World} {i : Nat} {o : AObj} {v : Value} (hz : 0 < o.sz) (hv : ∃ a l c, v = .slice a l c) : RepV (C.repl w i o v) (.sl i C.N) v := by
  simp only [RepV]
  refine ⟨hv, by simp [Ctx.repl], fun x hx _ => ?_⟩
  rcases repl_live hx with ⟨hne, _⟩ | ⟨_, rfl⟩
  · exact absurd rfl hne
  · exact ⟨hz, by simp [Ctx.repl]⟩
theorem RepV.freezeM {i ver : Nat} {o : AObj} {v : Value} (hg : Good G C) (hl : C.live i o) (hver : o.ver = ver) (hc : closedLL o.es = true) (hr : RepV C (.mp i ver) v) : RepV (C.free i) (.fmap o.es) v := by
  simp only [RepV] at hr
  obtain ⟨hz, g, hgb, rfl⟩ := hr.2.2 o hl hver
  obtain ⟨_, _, hes, xs, hown, hrep, _⟩ := hg.obj i o hl
  rw [hz] at hown
  obtain ⟨b, ms, clock, h1, hb, rfl⟩ := hown
  have hbg : b = g := by rw [h1] at hgb; simpa [Value.ownBlock] using hgb
  subst hbg
  simp only [RepV, RepF]
  refine .inr ⟨b, ms, clock, rfl, ⟨own_lt hg hl b hgb, fun j x hj => ?_, fun hF => hg.own i o hl b hgb hF⟩, hb, RepFLL.ext (ext_free i).fext _ _ (RepLL.repFLL o.es _ hc hrep)⟩
  obtain ⟨hne, hj⟩ := free_live hj
  exact hg.apart i j o x hl hj (fun e => hne e.symm) b hgb
end
end Go.Abs
/- One operation at a time, over the clean state: what it asks, and that the machine does the same. -/
namespace Go.Abs
open Go
inductive TD where
  | bool | int (k : IntKind) | str | ptr (e : TypeId) | slice (e : TypeId) | array (n : Nat) (e : TypeId) | map (k e : TypeId)
  | struct (fs : List (Nat × TypeId)) | func | iface | uptr | other
def TD.of : TypeDesc → TD
  | .bool => .bool | .int k => .int k | .string => .str | .pointer e => .ptr e | .slice e => .slice e | .array n e => .array n e | .map k e => .map k e
  | .struct fs => .struct (fs.toList.map fun f => (f.offset, f.type)) | .func .. => .func | .interface _ => .iface | .unsafePointer => .uptr | _ => .other
structure TI where
  d : TD
  size : Nat
  bytes : Nat
  zero : List Value
  cmp : Bool
def TI.agg (ti : TI) : Bool := match ti.d with | .struct _ | .array _ _ => true | _ => false
structure TFits (P : Program) (t : TypeId) (ti : TI) : Prop where
  info : ∃ i, P.info? t = some i ∧ i.size = ti.size ∧ i.bytes = ti.bytes ∧ ∃ z, i.zero = some z ∧ z.cells.toList = ti.zero
  und : ∃ d, P.underlying t = some d ∧ TD.of d = ti.d
  plain : ti.agg = false → ∃ i v, P.info? t = some i ∧ i.zero = some v ∧ ti.zero = [v]
  aggz : ti.agg = true → ∃ i us, P.info? t = some i ∧ i.zero = some (.agg us) ∧ us.toList = ti.zero
  cmp_ok : ti.cmp = true → P.stoodInHeld t = false ∧ P.eqGuardType P.depth t = false ∧ ∃ gs : Array Field, P.underlying t = some (.struct gs) ∧ (gs.all fun g => g.name != "_") = true
abbrev TT := List (Nat × TI)
def TOk (P : Program) (T : TT) : Prop := ∀ p ∈ T, TFits P p.1 p.2
def tyK (T : TT) (t : TypeId) (k : TI → Prop) : Prop :=
  match T with
  | [] => False
  | (u, ti) :: T => match Nat.beq u t with
    | true => k ti
    | false => tyK T t k
theorem tyK_ok {P : Program} : ∀ {T : TT} {t : TypeId} {k : TI → Prop}, TOk P T → tyK T t k → ∃ ti, TFits P t ti ∧ k ti
  | [], _, _, _, h => h.elim
  | (u, ti) :: T, t, k, ht, h => by
    unfold tyK at h
    split at h
    · rename_i hb
      have : u = t := Nat.eq_of_beq_eq_true hb
      subst this
      exact ⟨ti, ht (u, ti) (by simp), h⟩
    · exact tyK_ok (fun p hp => ht p (by simp [hp])) h
section runs
variable {P : Program} {t : TypeId} {ti : TI} (w : World)
theorem run_sizeOf' (h : TFits P t ti) : (sizeOf t).run P w = .ok ti.size w := by
  obtain ⟨i, hi, hs, _⟩ := h.info
  simp [sizeOf, typeInfo, hi, hs]
theorem run_isAgg' (h : TFits P t ti) : (isAgg t).run P w = .ok ti.agg w := by
  obtain ⟨d, hd, hk⟩ := h.und
  unfold isAgg TI.agg
  rw [Sem.run_bind, run_underlying hd w]
  cases d <;> simp [TD.of] at hk <;> simp [← hk]
theorem run_zeroValue' (h : TFits P t ti) : ∃ z, (zeroValue t).run P w = .ok z w ∧ z.cells.toList = ti.zero := by
  obtain ⟨i, hi, _, _, z, hz, hc⟩ := h.info
  exact ⟨z, by simp [zeroValue, typeInfo, hi, hz], hc⟩
theorem und_slice {e : TypeId} (h : TFits P t ti) (hd : ti.d = .slice e) : P.underlying t = some (.slice e) := by
  obtain ⟨d, hd', hk⟩ := h.und
  rw [hd] at hk
  cases d <;> simp [TD.of] at hk
  subst hk; exact hd'
theorem und_array {n : Nat} {e : TypeId} (h : TFits P t ti) (hd : ti.d = .array n e) : P.underlying t = some (.array n e) := by
  obtain ⟨d, hd', hk⟩ := h.und
  rw [hd] at hk
  cases d <;> simp [TD.of] at hk
  obtain ⟨rfl, rfl⟩ := hk; exact hd'
theorem und_str (h : TFits P t ti) (hd : ti.d = .str) : P.underlying t = some .string := by
  obtain ⟨d, hd', hk⟩ := h.und
  rw [hd] at hk
  cases d <;> simp [TD.of] at hk
  exact hd'
theorem und_int {k : IntKind} (h : TFits P t ti) (hd : ti.d = .int k) : P.underlying t = some (.int k) := by
  obtain ⟨d, hd', hk⟩ := h.und
  rw [hd] at hk
  cases d <;> simp [TD.of] at hk
  subst hk; exact hd'
theorem und_struct {fs : List (Nat × TypeId)} (h : TFits P t ti) (hd : ti.d = .struct fs) : ∃ gs : Array Field, P.underlying t = some (.struct gs) ∧ gs.toList.map (fun f => (f.offset, f.type)) = fs := by
  obtain ⟨d, hd', hk⟩ := h.und
  rw [hd] at hk
  cases d <;> simp [TD.of] at hk
  exact ⟨_, hd', hk⟩
end runs
/-! ### Looking things up, whatever follows behind -/
def ofVK (v : Value) (k : AV → Prop) : Prop :=
  match v with
  | .bool b => k (.bool b)
  | .int i n => k (.int i n)
  | .string ⟨⟨s⟩⟩ => k (.str s)
  | .pointer none => k .nilp
  | .slice none 0 0 => k .nils
  | .map none => k (.fmap [])
  | .nilFunc => k .nilf
  | .nilIface => k .nili
  | _ => k .any
theorem ofVK_ok {C : Ctx} {v : Value} {k : AV → Prop} (h : ofVK v k) : ∃ a, RepF C a v ∧ k a := by
  unfold ofVK at h
  split at h
  · exact ⟨_, by simp [RepF], h⟩
  · exact ⟨_, by simp [RepF], h⟩
  · exact ⟨_, by simp [RepF], h⟩
  · exact ⟨_, by simp [RepF], h⟩
  · exact ⟨_, by simp [RepF], h⟩
  · exact ⟨_, by simp [RepF], h⟩
  · exact ⟨_, by simp [RepF], h⟩
  · exact ⟨_, by simp [RepF], h⟩
  · exact ⟨.any, by simp [RepF], h⟩
def ofVsK : List Value → (List AV → Prop) → Prop
  | [], k => k []
  | v :: vs, k => ofVK v fun a => ofVsK vs fun as => k (a :: as)
theorem ofVsK_ok {C : Ctx} : ∀ {vs : List Value} {k : List AV → Prop}, ofVsK vs k → ∃ as, RepFL C as vs ∧ k as
  | [], _, h => ⟨[], by simp [RepFL], h⟩
  | v :: vs, k, h => by
    unfold ofVsK at h
    obtain ⟨a, ha, h⟩ := ofVK_ok (C := C) h
    obtain ⟨as, has, h⟩ := ofVsK_ok (C := C) h
    exact ⟨a :: as, by simp only [RepFL]; exact ⟨v, vs, rfl, ha, has⟩, h⟩
def getK : List AV → Nat → (AV → Prop) → Prop
  | [], _, k => k .any
  | a :: _, 0, k => k a
  | _ :: as, n + 1, k => getK as n k
theorem getK_ok {C : Ctx} : ∀ {as : List AV} {us : List Value} {n : Nat} {k : AV → Prop}, RepL C as us → getK as n k → ∃ a, RepV C a (us.getD n undef) ∧ k a
  | [], us, n, k, h, hk => ⟨.any, by simp [RepV, RepF], by simpa [getK] using hk⟩
  | a :: as, us, n, k, h, hk => by
    simp only [RepL] at h
    obtain ⟨u, r, rfl, h1, h2⟩ := h
    cases n with
    | zero => exact ⟨a, by simpa using h1, hk⟩
    | succ n => simpa using getK_ok h2 (by simpa [getK] using hk)
def globK : Globs → Nat → (AV → Prop) → Prop
  | [], _, k => k .any
  | (g, cs) :: G, n, k => match Nat.beq g n with
    | true => k (.fptr cs)
    | false => globK G n k
theorem globK_ok {C : Ctx} : ∀ {G : Globs} {n : Nat} {k : AV → Prop}, (∀ p ∈ G, ∃ us, C.fz p.1 ∧ readsG C.w p.1 p.2.length us ∧ RepFL C p.2 us) → globK G n k → ∃ a, RepV C a (.pointer (some ⟨n, 0, none⟩)) ∧ k a
  | [], n, k, _, h => ⟨.any, by simp [RepV, RepF], h⟩
  | (g, cs) :: G, n, k, hg, h => by
    unfold globK at h
    split at h
    · rename_i hb
      have : g = n := Nat.eq_of_beq_eq_true hb
      subst this
      obtain ⟨us, h1, h2, h3⟩ := hg (g, cs) (by simp)
      exact ⟨.fptr cs, by simp only [RepV, RepF]; exact ⟨g, 0, us, rfl, h1, h2.1, h3⟩, h⟩
    · exact globK_ok (fun p hp => hg p (by simp [hp])) h
def evK (G : Globs) (e : Env) (x : Operand) (k : AV → Prop) : Prop :=
  match x with
  | .tmp t => getK e t k
  | .const v => ofVK v k
  | .global g => globK G g k
  | .func f => k (.func (.func f) [] [])
theorem evK_ok {G : Globs} {C : Ctx} {e : Env} {a : Act} {x : Operand} {k : AV → Prop} (hg : Good G C) (hr : RepL C e a.tmps.toList) (h : evK G e x k) : ∃ av, RepV C av (a.eval x) ∧ k av := by
  cases x with
  | tmp t =>
    obtain ⟨av, h1, h2⟩ := getK_ok hr h
    exact ⟨av, by simpa [Act.eval, Array.getD_eq_getD_getElem?, List.getD_eq_getElem?_getD] using h1, h2⟩
  | const v => obtain ⟨av, h1, h2⟩ := ofVK_ok (C := C) h; exact ⟨av, RepF.repV _ _ h1, h2⟩
  | global g => exact globK_ok hg.glob h
  | func f => exact ⟨_, by simp only [RepV, Act.eval]; exact ⟨#[], #[], rfl, by simp [RepL], by simp [RepL]⟩, h⟩
theorem getK_and {p q : AV → Prop} : ∀ {e : List AV} {t : Nat}, getK e t p → getK e t q → getK e t fun a => p a ∧ q a
  | [], t, h, k => ⟨h, k⟩
  | a :: e, 0, h, k => ⟨h, k⟩
  | a :: e, t + 1, h, k => getK_and (e := e) (t := t) h k
theorem globK_and {p q : AV → Prop} : ∀ {G : Globs} {n : Nat}, globK G n p → globK G n q → globK G n fun a => p a ∧ q a
  | [], n, h, k => ⟨h, k⟩
  | (g, cs) :: G, n, h, k => by
    unfold globK at *
    cases hb : Nat.beq g n
    · rw [hb] at h k; exact globK_and (G := G) h k
    · rw [hb] at h k; exact ⟨h, k⟩
theorem ofVK_fn (v : Value) : ∃ a, ∀ p, ofVK v p = p a := by unfold ofVK; split <;> exact ⟨_, fun _ => rfl⟩
theorem evK_and {G : Globs} {e : Env} {x : Operand} {p q : AV → Prop} (h : evK G e x p) (k : evK G e x q) : evK G e x fun a => p a ∧ q a := by
  cases x with
  | tmp t => exact getK_and h k
  | const v =>
    obtain ⟨a, ha⟩ := ofVK_fn v
    show ofVK v fun a => p a ∧ q a
    rw [ha]
    exact ⟨(ha p).mp h, (ha q).mp k⟩
  | global g => exact globK_and h k
  | func f => exact ⟨h, k⟩
def evLK (G : Globs) (e : Env) : List Operand → (List AV → Prop) → Prop
  | [], k => k []
  | x :: xs, k => evK G e x fun a => evLK G e xs fun as => k (a :: as)
theorem evLK_ok {G : Globs} {C : Ctx} {e : Env} {a : Act} (hg : Good G C) (hr : RepL C e a.tmps.toList) : ∀ {xs : List Operand} {k : List AV → Prop}, evLK G e xs k → ∃ as, RepL C as (xs.map a.eval) ∧ k as
  | [], k, h => ⟨[], by simp [RepL], h⟩
  | x :: xs, k, h => by
    unfold evLK at h
    obtain ⟨av, h1, h⟩ := evK_ok hg hr h
    obtain ⟨as, h2, h⟩ := evLK_ok hg hr h
    exact ⟨av :: as, by simp only [List.map_cons, RepL]; exact ⟨_, _, rfl, h1, h2⟩, h⟩
def objK : AHeap → Nat → (AObj → Prop) → Prop
  | [], _, _ => False
  | o :: _, 0, k => match o with | some o => k o | none => False
  | _ :: s, n + 1, k => objK s n k
theorem objK_ok : ∀ {s : AHeap} {i : Nat} {k : AObj → Prop}, objK s i k → ∃ o, s[i]? = some (some o) ∧ k o
  | [], i, k, h => by cases i <;> exact h.elim
  | o :: s, 0, k, h => by
    cases o with
    | none => exact h.elim
    | some o => exact ⟨o, rfl, h⟩
  | _ :: s, n + 1, k, h => by obtain ⟨o, h1, h2⟩ := objK_ok (s := s) (i := n) h; exact ⟨o, by simpa using h1, h2⟩
def setHK : AHeap → Nat → AObj → (AHeap → Prop) → Prop
  | [], _, _, k => k []
  | _ :: s, 0, o, k => k (some o :: s)
  | x :: s, n + 1, o, k => setHK s n o fun s' => k (x :: s')
theorem setHK_eq : ∀ {s : AHeap} {i : Nat} {o : AObj} {k : AHeap → Prop}, setHK s i o k = k (s.set i (some o))
  | [], i, o, k => by cases i <;> rfl
  | _ :: s, 0, o, k => rfl
  | x :: s, n + 1, o, k => by simp only [setHK]; rw [setHK_eq]; rfl
def snocK : AHeap → AObj → (Nat → AHeap → Prop) → Prop
  | [], o, k => k 0 [some o]
  | x :: s, o, k => snocK s o fun n s' => k (n + 1) (x :: s')
theorem snocK_eq : ∀ {s : AHeap} {o : AObj} {k : Nat → AHeap → Prop}, snocK s o k = k s.length (s ++ [some o])
  | [], o, k => rfl
  | x :: s, o, k => by simp only [snocK]; rw [snocK_eq]; rfl
def setEK : Env → Nat → AV → (Env → Prop) → Prop
  | [], _, _, k => k []
  | _ :: e, 0, v, k => k (v :: e)
  | x :: e, n + 1, v, k => setEK e n v fun e' => k (x :: e')
theorem setEK_eq : ∀ {e : Env} {d : Nat} {v : AV} {k : Env → Prop}, setEK e d v k = k (e.set d v)
  | [], d, v, k => by cases d <;> rfl
  | _ :: e, 0, v, k => rfl
  | x :: e, n + 1, v, k => by simp only [setEK]; rw [setEK_eq]; rfl
def putK (e : Env) (d : Option Tmp) (v : AV) (k : Env → Prop) : Prop :=
  match d with
  | none => k e
  | some d => setEK e d v k
def dropK : List AV → Nat → (List AV → Prop) → Prop
  | cs, 0, k => k cs
  | [], _ + 1, _ => False
  | _ :: cs, n + 1, k => dropK cs n k
theorem dropK_of {cs : List AV} {n : Nat} {k : List AV → Prop} (hn : n ≤ cs.length) (h : k (cs.drop n)) : dropK cs n k := by
  induction n generalizing cs with
  | zero => cases cs <;> simpa [dropK] using h
  | succ n ih =>
    cases cs with
    | nil => simp at hn
    | cons c cs => simp only [dropK]; exact ih (by simpa using hn) (by simpa using h)
theorem dropK_ok : ∀ {cs : List AV} {n : Nat} {k : List AV → Prop}, dropK cs n k → n ≤ cs.length ∧ k (cs.drop n)
  | cs, 0, k, h => ⟨Nat.zero_le _, by cases cs <;> simpa [dropK] using h⟩
  | [], n + 1, k, h => by simp [dropK] at h
  | c :: cs, n + 1, k, h => by
    obtain ⟨h1, h2⟩ := dropK_ok (cs := cs) (n := n) (k := k) h
    exact ⟨by simpa using h1, by simpa using h2⟩
def takeK : List AV → Nat → (List AV → Prop) → Prop
  | _, 0, k => k []
  | [], _ + 1, _ => False
  | c :: cs, n + 1, k => takeK cs n fun r => k (c :: r)
theorem takeK_ok : ∀ {cs : List AV} {n : Nat} {k : List AV → Prop}, takeK cs n k → n ≤ cs.length ∧ k (cs.take n)
  | cs, 0, k, h => ⟨Nat.zero_le _, by cases cs <;> simpa [takeK] using h⟩
  | [], n + 1, k, h => by simp [takeK] at h
  | c :: cs, n + 1, k, h => by
    obtain ⟨h1, h2⟩ := takeK_ok (cs := cs) (n := n) h
    exact ⟨by simpa using h1, by simpa using h2⟩
def headK (cs : List AV) (k : AV → Prop) : Prop := match cs with | c :: _ => k c | [] => False
def cellsK (T : TT) (t : TypeId) (cs : List AV) (k : AV → Prop) : Prop :=
  tyK T t fun ti => match ti.agg with
    | true => takeK cs ti.size fun r => k (.agg r)
    | false => headK cs k
def valK (a : AV) (k : List AV → Prop) : Prop :=
  match a with
  | .agg cs => k cs
  | .any | .tuple _ => False
  | a => k [a]
def one : AV → Bool
  | .any | .agg _ | .tuple _ => false
  | _ => true
def ones : List AV → Bool
  | [] => true
  | a :: as => one a && ones as
theorem one_ok {C : Ctx} {a : AV} {v : Value} (h : RepV C a v) (h1 : one a = true) : v.oneCell' = true := by
  cases a <;> simp [one] at h1 <;> simp only [RepV, RepF] at h
  case ptr i ver k off => obtain ⟨⟨p, rfl⟩, _⟩ := h; rfl
  case sl i ver => obtain ⟨⟨p, l, c, rfl⟩, _⟩ := h; rfl
  case fptr => obtain ⟨b, off, us, rfl, _⟩ := h; rfl
  case fsl => obtain ⟨a, cap, _, rfl, _⟩ := h; rfl
  case mp => obtain ⟨⟨b, rfl⟩, _⟩ := h; rfl
  case fmap => rcases h with ⟨rfl, _⟩ | ⟨b, ms, clock, rfl, _⟩ <;> rfl
  case func => obtain ⟨f, c, rfl, _⟩ := h; rfl
  case iface => obtain ⟨y, rfl, _⟩ := h; rfl
  all_goals (subst h; rfl)
theorem ones_ok {C : Ctx} : ∀ {as : List AV} {us : List Value}, RepL C as us → ones as = true → ∀ u ∈ us, u.oneCell' = true
  | [], us, h, _, u, hu => by simp only [RepL] at h; subst h; cases hu
  | a :: as, us, h, h1, u, hu => by
    simp only [RepL] at h
    simp only [ones, Bool.and_eq_true] at h1
    obtain ⟨x, r, rfl, h2, h3⟩ := h
    rcases List.mem_cons.1 hu with rfl | hu
    · exact one_ok h2 h1.1
    · exact ones_ok h3 h1.2 u hu
theorem cells_of_one {v : Value} (h : v.oneCell' = true) : v.cells = #[v] := by cases v <;> simp_all [Value.oneCell', Value.cells]
theorem valK_ok {C : Ctx} {a : AV} {v : Value} {k : List AV → Prop} (h : RepV C a v) (hk : valK a k) : ∃ cs, RepL C cs v.cells.toList ∧ k cs := by
  have key : one a = true → k [a] → ∃ cs, RepL C cs v.cells.toList ∧ k cs := fun h1 hk => ⟨[a], by rw [cells_of_one (one_ok h h1)]; simp only [RepL]; exact ⟨v, [], rfl, h, rfl⟩, hk⟩
  unfold valK at hk
  cases a
  case agg cs => simp only [RepV] at h; obtain ⟨us, rfl, hl⟩ := h; exact ⟨cs, hl, hk⟩
  case any => exact hk.elim
  case tuple => exact hk.elim
  all_goals exact key rfl hk
end Go.Abs
/- One operation at a time: loads, stores, new objects. -/
namespace Go.Abs
open Go
section
variable {P : Program} {G : Globs} {T : TT} {C : Ctx}
theorem ptr_live {i ver k off : Nat} {o : AObj} {v : Value} (hl : C.s[i]? = some (some o)) (hv : o.ver = ver) (h : RepV C (.ptr i ver k off) v) :
    0 < o.sz ∧ ∃ g, (C.io i).ownBlock = some g ∧ v = .pointer (some ⟨g, k * o.sz + off, none⟩) := by
  simp only [RepV] at h
  exact h.2.2 o hl hv
theorem obj_cells {i : Nat} {o : AObj} (hz : 0 < o.sz) (hg : Good G C) (hl : C.s[i]? = some (some o)) {g : Nat} (hgb : (C.io i).ownBlock = some g) {k : Nat} {e : List AV} (he : o.es[k]? = some e) :
    ∃ us, RepL C e us ∧ us.length = o.sz ∧ ∀ j u, us[j]? = some u → C.w.cell? ⟨g, k * o.sz + j, none⟩ = some u := by
  obtain ⟨_, _, hes, xs, hown, hrep, _⟩ := hg.obj i o hl
  have hown := hown.row hz
  rw [wd_of hz] at hes
  have h1 := RepLL.get hrep hes he
  have hlen := RepL.length h1
  refine ⟨_, h1, hlen.trans (hes e (List.mem_of_getElem? he)), fun j u hu => ?_⟩
  rw [List.getElem?_take] at hu
  split at hu
  · rw [List.getElem?_drop] at hu
    have := hown.cells hgb _ u hu
    rwa [Addr.add_lit, Nat.zero_add] at this
  · cases hu
theorem cellsK_all {t : TypeId} {cs : List AV} {us : List Value} {b off : Nat} {k : AV → Prop} (hT : TOk P T) (hr : RepL C cs us) (h : cellsK T t cs k) :
    ∃ av r, (∀ w, reads w b off us → (loadVar t ⟨b, off, none⟩).run P w = .ok r w) ∧ RepV C av r ∧ k av := by
  obtain ⟨ti, hti, h⟩ := tyK_ok hT h
  have hag := fun w => run_isAgg' (P := P) w hti
  split at h
  · rename_i hb
    obtain ⟨h1, h2⟩ := takeK_ok h
    have h3 := RepL.take hr ti.size
    have hl : (us.take ti.size).length = ti.size := by rw [RepL.length h3, List.length_take]; omega
    have h4 := fun (w : World) (hrd : reads w b off us) => run_loadCells_list (P := P) w ⟨b, off, none⟩ (us.take ti.size) (fun j v hv => by
      rw [List.getElem?_take] at hv
      split at hv
      · rw [Addr.add_lit]; exact hrd j v hv
      · cases hv)
    rw [hl] at h4
    refine ⟨_, .agg (us.take ti.size).toArray, fun w hrd => ?_, by simp only [RepV]; exact ⟨_, rfl, by simpa using h3⟩, h2⟩
    simp [loadVar, hag, hb, run_sizeOf' (P := P) w hti, h4 w hrd]
  · rename_i hb
    cases cs with
    | nil => exact h.elim
    | cons c cs =>
      simp only [RepL] at hr
      obtain ⟨u, r, rfl, h1, _⟩ := hr
      refine ⟨c, u, fun w hrd => ?_, h1, h⟩
      have := hrd 0 u rfl
      simp only [Nat.add_zero] at this
      simp [loadVar, hag, hb, this]
theorem cellsK_ok {t : TypeId} {cs : List AV} {us : List Value} {b off : Nat} {k : AV → Prop} (hT : TOk P T) (hr : RepL C cs us) (hrd : reads C.w b off us) (h : cellsK T t cs k) :
    ∃ av r, (loadVar t ⟨b, off, none⟩).run P C.w = .ok r C.w ∧ RepV C av r ∧ k av := by
  obtain ⟨av, r, h1, h2, h3⟩ := cellsK_all (P := P) (b := b) (off := off) hT hr h
  exact ⟨av, r, h1 _ hrd, h2, h3⟩
def ptrK (s : AHeap) (p : AV) (kp : Nat → AObj → Nat → Nat → Prop) (kf : List AV → Prop) : Prop :=
  match p with
  | .ptr i ver k off => objK s i fun o => o.ver = ver ∧ kp i o k off
  | .fptr cs => kf cs
  | _ => False
def loadW (T : TT) (t : TypeId) (s : AHeap) (p : AV) (k : AV → Prop) : Prop :=
  ptrK s p (fun _ o kk off => ∃ e, o.es[kk]? = some e ∧ dropK e off fun cs => cellsK T t cs k) (fun cs => cellsK T t cs k)
theorem loadW_ok {t : TypeId} {p : AV} {v : Value} {k : AV → Prop} (hT : TOk P T) (hg : Good G C) (hp : RepV C p v) (h : loadW T t C.s p k) :
    ∃ av r, (Instr.loadAt t v).run P C.w = .ok r C.w ∧ RepV C av r ∧ k av := by
  unfold loadW ptrK at h
  split at h
  · rename_i i ver kk off
    obtain ⟨o, ho, hver, e, he, h⟩ := objK_ok h
    obtain ⟨hle, h⟩ := dropK_ok h
    obtain ⟨hz, g, hgb, rfl⟩ := ptr_live ho hver hp
    obtain ⟨us, h1, h2, h3⟩ := obj_cells hz hg ho hgb he
    have h4 : reads C.w g (kk * o.sz + off) (us.drop off) := fun j u hu => by
      rw [List.getElem?_drop] at hu
      rw [Nat.add_assoc]; exact h3 _ u hu
    obtain ⟨av, r, h5, h6, h7⟩ := cellsK_ok hT (RepL.drop h1 off) h4 h
    exact ⟨av, r, by simp [Instr.loadAt, Instr.sureAddr, h5], h6, h7⟩
  · rename_i cs
    simp only [RepV, RepF] at hp
    obtain ⟨b, off, us, rfl, _, hrd, hl⟩ := hp
    obtain ⟨av, r, h5, h6, h7⟩ := cellsK_ok hT (RepFL.repL _ _ hl) hrd h
    exact ⟨av, r, by simp [Instr.loadAt, Instr.sureAddr, h5], h6, h7⟩
  · exact h.elim
def Ctx.keeps (C : Ctx) (w : World) : Prop := ∀ b, C.fz b → w.heap[b]? = C.w.heap[b]?
theorem keeps_refl (C : Ctx) : C.keeps C.w := fun _ _ => rfl
theorem Ext.keeps {C D : Ctx} (h : Ext C D) {w : World} (k : D.keeps w) : C.keeps w := fun b hb => (k b (h.fz b hb).1).trans (h.fz b hb).2
theorem loadF_ok {t : TypeId} {cs : List AV} {v : Value} {k : AV → Prop} (hT : TOk P T) (hp : RepV C (.fptr cs) v) (h : cellsK T t cs k) :
    ∃ av r, (∀ w, C.keeps w → (Instr.loadAt t v).run P w = .ok r w) ∧ RepV C av r ∧ k av := by
  simp only [RepV, RepF] at hp
  obtain ⟨b, off, us, rfl, hb, hrd, hl⟩ := hp
  obtain ⟨av, r, h1, h2, h3⟩ := cellsK_all (P := P) (b := b) (off := off) hT (RepFL.repL _ _ hl) h
  refine ⟨av, r, fun w hw => ?_, h2, h3⟩
  have : reads w b off us := fun j u hu => (World.cell?_of_block (w := C.w) (w' := w) (a := ⟨b, off + j, none⟩) (hw b hb)).trans (hrd j u hu)
  simp [Instr.loadAt, Instr.sureAddr, h1 w this]
def fieldW (T : TT) (st : TypeId) (f : Nat) (s : AHeap) (p : AV) (k : AV → Prop) : Prop :=
  tyK T st fun ti => match ti.d with
    | .struct fs => match fs[f]? with
      | some (off, ty) => tyK T ty fun tf => match tf.size with
        | 0 => False
        | _ + 1 => ptrK s p (fun i o kk o2 => k (.ptr i o.ver kk (o2 + off))) (fun cs => dropK cs off fun cs => k (.fptr cs))
      | none => False
    | _ => False
theorem fieldW_ok {st : TypeId} {f : Nat} {p : AV} {v : Value} {k : AV → Prop} (hT : TOk P T) (hg : Good G C) (hp : RepV C p v) (h : fieldW T st f C.s p k) :
    ∃ av r, (∀ w, (Instr.fieldAt st v f).run P w = .ok r w) ∧ RepV C av r ∧ k av := by
  obtain ⟨ti, hti, h⟩ := tyK_ok hT h
  split at h
  · rename_i fs hd
    obtain ⟨gs, hu, hgs⟩ := und_struct hti hd
    split at h
    · rename_i off ty hf
      have hgf : ∃ fl, gs[f]? = some fl ∧ fl.offset = off ∧ fl.type = ty := by
        rw [← hgs, List.getElem?_map] at hf
        cases hq : gs.toList[f]? with
        | none => rw [hq] at hf; cases hf
        | some fl =>
          rw [hq] at hf
          simp only [Option.map_some, Option.some.injEq, Prod.mk.injEq] at hf
          exact ⟨fl, by simpa using hq, hf.1, hf.2⟩
      obtain ⟨fl, hfl, rfl, rfl⟩ := hgf
      obtain ⟨tf, htf, h2⟩ := tyK_ok hT h
      clear h
      split at h2
      · exact h2.elim
      · rename_i n hn
        have hpl : ∀ (a : Addr) w, (fieldPlace a fl).run P w = .ok (a.add fl.offset) w := fun a w => by simp [fieldPlace, run_sizeOf' (P := P) w htf, hn]
        unfold ptrK at h2
        split at h2
        · rename_i i ver kk o2
          obtain ⟨o, ho, hver, h⟩ := objK_ok h2
          obtain ⟨hz, g, hgb, rfl⟩ := ptr_live ho hver hp
          refine ⟨_, .pointer (some ⟨g, kk * o.sz + o2 + fl.offset, none⟩), fun w => ?_, ?_, h⟩
          · simp [Instr.fieldAt, run_underlying hu, hfl, Instr.sureAddr, hpl, Addr.add_lit]
          · simp only [RepV]
            refine ⟨⟨_, rfl⟩, (hg.obj i o ho).1, fun o' ho' hv' => ?_⟩
            have : o' = o := by have := ho'.symm.trans ho; simpa using this
            subst this
            exact ⟨hz, g, hgb, by simp [Nat.add_assoc]⟩
        · rename_i cs
          simp only [RepV, RepF] at hp
          obtain ⟨b, o2, us, rfl, hb, hrd, hl⟩ := hp
          obtain ⟨hle, h⟩ := dropK_ok h2
          refine ⟨_, .pointer (some ⟨b, o2 + fl.offset, none⟩), fun w => ?_, ?_, h⟩
          · simp [Instr.fieldAt, run_underlying hu, hfl, Instr.sureAddr, hpl, Addr.add_lit]
          · simp only [RepV, RepF]
            exact ⟨b, _, us.drop fl.offset, rfl, hb, fun j u hu' => by rw [List.getElem?_drop] at hu'; rw [Nat.add_assoc]; exact hrd _ u hu', RepFL.drop hl _⟩
        · exact h2.elim
    · exact h.elim
  · exact h.elim
def splice (e : List AV) (off : Nat) (new : List AV) : List AV := e.take off ++ new ++ e.drop (off + new.length)
def spliceK : List AV → Nat → List AV → (List AV → Prop) → Prop
  | e, 0, [], k => k e
  | [], 0, _ :: _, _ => False
  | _ :: e, 0, n :: new, k => spliceK e 0 new fun r => k (n :: r)
  | [], _ + 1, _, _ => False
  | c :: e, off + 1, new, k => spliceK e off new fun r => k (c :: r)
theorem spliceK_ok : ∀ {e : List AV} {off : Nat} {new : List AV} {k : List AV → Prop}, spliceK e off new k → off + new.length ≤ e.length ∧ k (splice e off new)
  | e, 0, [], k, h => ⟨by simp, by cases e <;> simpa [spliceK, splice] using h⟩
  | [], 0, _ :: _, k, h => by simp [spliceK] at h
  | c :: e, 0, n :: new, k, h => by
    simp only [spliceK] at h
    obtain ⟨h1, h2⟩ := spliceK_ok h
    refine ⟨by simp at h1 ⊢; omega, ?_⟩
    simpa [splice] using h2
  | [], off + 1, new, k, h => by simp [spliceK] at h
  | c :: e, off + 1, new, k, h => by
    simp only [spliceK] at h
    obtain ⟨h1, h2⟩ := spliceK_ok h
    refine ⟨by simp at h1 ⊢; omega, ?_⟩
    simpa [splice, Nat.add_right_comm off 1] using h2
def storeW (T : TT) (t : TypeId) (s : AHeap) (p v : AV) (k : AHeap → Prop) : Prop :=
  match p with
  | .ptr i ver kk off => objK s i fun o => o.ver = ver ∧ valK v fun new => ones new = true ∧ (tyK T t fun ti => new.length = ti.size) ∧
      ∃ e, o.es[kk]? = some e ∧ spliceK e off new fun e' => setHK s i { o with es := o.es.set kk e' } k
  | _ => False
theorem RepL.splice {e : List AV} {us : List Value} {off : Nat} {new : List AV} {vs : List Value} (he : RepL C e us) (hn : RepL C new vs) :
    RepL C (splice e off new) (us.take off ++ vs ++ us.drop (off + vs.length)) := by
  unfold Abs.splice
  rw [← RepL.length hn]
  exact RepL.append (RepL.append (RepL.take he _) hn) (RepL.drop he _)
theorem good_store {i : Nat} {o : AObj} {g kk off : Nat} {e new : List AV} {vs : List Value} (hsz : 0 < o.sz) (hg : Good G C) (hl : C.s[i]? = some (some o)) (hgb : (C.io i).ownBlock = some g) (he : o.es[kk]? = some e)
    (hnew : RepL C new vs) (hones : ones new = true) (hfit : off + new.length ≤ e.length) :
    ∃ C', (storeCells ⟨g, kk * o.sz + off, none⟩ vs).run P C.w = .ok () C'.w ∧ Good G C' ∧ Ext C C' ∧ C'.s = C.s.set i (some { o with es := o.es.set kk (splice e off new) }) := by
  obtain ⟨hver, _, hes, xs, hown, hrep, hone⟩ := hg.obj i o hl
  have hown := hown.row hsz
  rw [wd_of hsz] at hes
  have hk : kk < o.es.length := (List.getElem?_eq_some_iff.1 he).1
  have hel : e.length = o.sz := hes e (List.mem_of_getElem? he)
  have hnl := RepL.length hnew
  have hxl : xs.length = o.es.length * o.sz := hown.1
  have hmul : kk * o.sz + o.sz ≤ o.es.length * o.sz := by
    have := Nat.mul_le_mul_right o.sz (show kk + 1 ≤ o.es.length by omega)
    rwa [Nat.add_mul, Nat.one_mul] at this
  rcases hown.2 with ⟨h1, _⟩ | ⟨g', cap, cur, h1, hb0, hgc, hnc, hcm, hcs, htake⟩
  · rw [h1] at hgb; simp [Value.ownBlock] at hgb
  · have hgg : g' = g := by rw [h1] at hgb; simpa [Value.ownBlock] using hgb
    subst hgg
    have hcap : o.es.length * o.sz ≤ cur.size := by rw [hcs]; exact Nat.mul_le_mul_right _ hnc
    have hst := run_storeCells_at P g' (kk * o.sz + off) o.t vs 0 cur C.w hgc (by omega) (ones_ok hnew hones)
    simp only [Nat.add_zero] at hst
    generalize hcur' : (cur.toList.take (kk * o.sz + off) ++ vs ++ cur.toList.drop (kk * o.sz + off + vs.length)).toArray = cur' at hst
    have hxs : xs.take (kk * o.sz) ++ ((xs.drop (kk * o.sz)).take o.sz |>.take off) ++ vs ++ (((xs.drop (kk * o.sz)).take o.sz).drop (off + vs.length)) ++ xs.drop (kk * o.sz + o.sz) = xs.take (kk * o.sz + off) ++ vs ++ xs.drop (kk * o.sz + off + vs.length) := by
      have e1 : ((xs.drop (kk * o.sz)).take o.sz).take off = (xs.drop (kk * o.sz)).take off := by rw [List.take_take]; congr 1; omega
      have e2 : xs.take (kk * o.sz) ++ (xs.drop (kk * o.sz)).take off = xs.take (kk * o.sz + off) := by rw [← List.take_add]
      have e3 : (((xs.drop (kk * o.sz)).take o.sz).drop (off + vs.length)) ++ xs.drop (kk * o.sz + o.sz) = xs.drop (kk * o.sz + off + vs.length) := by
        rw [List.drop_take, List.drop_drop]
        have : xs.drop (kk * o.sz + o.sz) = (xs.drop (kk * o.sz + (off + vs.length))).drop (o.sz - (off + vs.length)) := by rw [List.drop_drop]; congr 1; omega
        rw [this, List.take_append_drop]; congr 1; omega
      rw [e1, e2, List.append_assoc, List.append_assoc, e3, ← List.append_assoc]
    have hlive : C.live i o := hl
    have hrep' := RepLL.set hrep hes hk (e := splice e off new) (p := ((xs.drop (kk * o.sz)).take o.sz).take off ++ vs ++ ((xs.drop (kk * o.sz)).take o.sz).drop (off + vs.length))
      (by unfold splice; simp; omega) (RepL.splice (RepLL.get hrep hes he) hnew)
    rw [← List.append_assoc, ← List.append_assoc, hxs] at hrep'
    have hgrow : C.w.grownBy (C.w.setRow g' cur') (C.io i).ownBlock := ⟨rfl, rfl, rfl, by simp, fun k _ hk => setRow_other C.w g' k _ (fun e => hk (by rw [h1, e]; rfl))⟩
    have hown' : (C.w.setRow g' cur').ownsRow 0 o.t o.sz (C.io i) (o.es.set kk (splice e off new)).length (xs.take (kk * o.sz + off) ++ vs ++ xs.drop (kk * o.sz + off + vs.length)) := by
      refine ⟨by simp; omega, .inr ⟨g', cap, cur', by rw [List.length_set]; exact h1, hb0, setRow_heap C.w g' cur cur' o.t _ hgc, by rw [List.length_set]; exact hnc, hcm, ?_, ?_⟩⟩
      · rw [← hcs, ← hcur']; simp; omega
      · rw [← hcur', List.length_set, ← htake]
        simp only [List.toList_toArray]
        apply List.ext_getElem?
        intro j
        simp only [List.getElem?_take, List.getElem?_append, List.length_append, List.length_take, Array.length_toList, List.getElem?_drop]
        by_cases hj : j < o.es.length * o.sz
        · simp only [hj, if_true]
          rw [show min (kk * o.sz + off) cur.size = kk * o.sz + off by omega, show min (kk * o.sz + off) (min (o.es.length * o.sz) cur.size) = kk * o.sz + off by omega]
          by_cases hj2 : j < kk * o.sz + off + vs.length
          · simp only [hj2, if_true]
          · simp only [hj2, if_false]
            rw [if_pos (by omega)]
        · simp only [hj, if_false]
          rw [show min (kk * o.sz + off) (min (o.es.length * o.sz) cur.size) = kk * o.sz + off by omega]
          rw [if_neg (by omega)]
          rw [if_neg (by omega)]
    refine ⟨C.repl (C.w.setRow g' cur') i { o with es := o.es.set kk (splice e off new) } (C.io i), hst, ?_, ?_, rfl⟩
    · refine good_repl hg hlive hgrow (.inr ⟨rfl, rfl, rfl⟩) (fun g h => .inr h) hsz ?_ hown' hrep' ?_
      · intro x hx
        rcases List.mem_or_eq_of_mem_set hx with hx | rfl
        · exact hes x hx
        · unfold splice; simp; omega
      · intro x hx
        rcases List.mem_append.1 hx with hx | hx
        · rcases List.mem_append.1 hx with hx | hx
          · exact hone x (List.mem_of_mem_take hx)
          · exact ones_ok hnew hones x hx
        · exact hone x (List.mem_of_mem_drop hx)
    · exact ext_repl hg hlive hgrow (.inr ⟨rfl, rfl, rfl⟩) (fun g h => .inr h)
theorem storeW_ok {t : TypeId} {p x : AV} {v u : Value} {k : AHeap → Prop} (hT : TOk P T) (hg : Good G C) (hp : RepV C p v) (hx : RepV C x u) (h : storeW T t C.s p x k) :
    ∃ C', (Instr.storeAt t v u).run P C.w = .ok () C'.w ∧ Good G C' ∧ Ext C C' ∧ k C'.s := by
  unfold storeW at h
  split at h
  · rename_i i ver kk off
    obtain ⟨o, ho, hver, h⟩ := objK_ok h
    obtain ⟨new, hnew, hones, hty, e, he, h⟩ := valK_ok hx h
    obtain ⟨ti, hti, hlen⟩ := tyK_ok hT hty
    obtain ⟨hfit, h⟩ := spliceK_ok h
    rw [setHK_eq] at h
    obtain ⟨hz, g, hgb, rfl⟩ := ptr_live ho hver hp
    obtain ⟨C', h1, h2, h3, h4⟩ := good_store (P := P) hz hg ho hgb he hnew hones hfit
    have hsz : u.cells.size = ti.size := by rw [← hlen, ← RepL.length hnew]; simp
    refine ⟨C', ?_, h2, h3, by rw [h4]; exact h⟩
    simp [Instr.storeAt, Instr.sureAddr, storeVar, run_sizeOf' (P := P) C.w hti, hsz, h1]
  · exact h.elim
end
end Go.Abs
/- New objects, appends. -/
namespace Go.Abs
open Go
section
variable {P : Program} {G : Globs} {T : TT} {C : Ctx}
def newK (s : AHeap) (t : TypeId) (cs : List AV) (k : AV → AHeap → Prop) : Prop :=
  match cs with
  | [] => False
  | c :: r => ones (c :: r) = true ∧ ∀ ver, snocK s ⟨ver, t, (c :: r).length, [c :: r]⟩ fun n s' => k (.ptr n ver 0 0) s'
theorem newK_ok {t : TypeId} {cs : List AV} {us : Array Value} {k : AV → AHeap → Prop} (hg : Good G C) (hr : RepL C cs us.toList) (h : newK C.s t cs k) :
    ∃ C' av, C'.w = C.w.alloc (.cells us t) ∧ Good G C' ∧ Ext C C' ∧ RepV C' av (.pointer (some ⟨C.w.heap.size, 0, none⟩)) ∧ k av C'.s := by
  unfold newK at h
  split at h
  · exact h.elim
  · rename_i c r
    obtain ⟨h1, h⟩ := h
    have h := h C.N
    rw [snocK_eq] at h
    have hlen := RepL.length hr
    have hgrow : C.w.grownBy (C.w.alloc (.cells us t)) none := World.grownBy_alloc C.w _ none
    have hfresh : ∀ g, (Value.slice (some ⟨C.w.heap.size, 0, none⟩) 1 1).ownBlock = some g → C.w.heap.size ≤ g := fun g hg => by simp [Value.ownBlock] at hg; omega
    have hown : (C.w.alloc (.cells us t)).ownsRow 0 t (c :: r).length (Value.slice (some ⟨C.w.heap.size, 0, none⟩) 1 1) [c :: r].length us.toList := by
      refine ⟨by simp [hlen], .inr ⟨C.w.heap.size, 1, us, rfl, Nat.zero_le _, heap_alloc_new C.w _, by simp, by simp [maxLen], by simp at hlen ⊢; omega, ?_⟩⟩
      rw [List.take_of_length_le]; simp [hlen]
    refine ⟨C.push (C.w.alloc (.cells us t)) ⟨C.N, t, (c :: r).length, [c :: r]⟩ (.slice (some ⟨C.w.heap.size, 0, none⟩) 1 1), _, rfl, ?_, ext_push hg hgrow rfl hfresh, ?_, h⟩
    · refine good_push hg hgrow rfl hfresh (by simp) (by simp) hown ?_ (ones_ok hr h1)
      simp only [RepLL]
      exact ⟨us.toList, [], by simp, hr, rfl⟩
    · simp only [RepV]
      refine ⟨⟨_, rfl⟩, by simp [Ctx.push], fun o ho _ => ?_⟩
      rcases push_live ho with ⟨hlt, _⟩ | ⟨_, rfl⟩
      · omega
      · exact ⟨by simp, C.w.heap.size, by simp [Ctx.push, Value.ownBlock], by simp⟩
theorem good_nothing {e : TypeId} {sz : Nat} (hg : Good G C) (hsz : 0 < sz) :
    Good G (C.push C.w ⟨C.N, e, sz, []⟩ (.slice none 0 0)) ∧ Ext C (C.push C.w ⟨C.N, e, sz, []⟩ (.slice none 0 0)) ∧ RepV (C.push C.w ⟨C.N, e, sz, []⟩ (.slice none 0 0)) (.sl C.s.length C.N) (.slice none 0 0) := by
  have hgrow : C.w.grownBy C.w none := ⟨rfl, rfl, rfl, Nat.le_refl _, fun _ _ _ => rfl⟩
  have hf : ∀ g, (Value.slice none 0 0).ownBlock = some g → C.w.heap.size ≤ g := fun g h => by simp [Value.ownBlock] at h
  refine ⟨good_push hg hgrow rfl hf hsz (by simp) (xs := []) ?_ (by simp [RepLL]) (by simp), ext_push hg hgrow rfl hf, ?_⟩
  · exact World.ownsRow_nil _ _ _ _
  · exact repV_push hsz ⟨_, _, _, rfl⟩
def newBK (T : TT) (s : AHeap) (t e : TypeId) (k : AV → AHeap → Prop) : Prop :=
  tyK T e fun te => (match te.size with | 0 => False | _ + 1 => True) ∧ ∀ ver, snocK s ⟨ver, e, te.size, []⟩ fun n s' => newK s' t [.nilp, .sl n ver] k
theorem newBK_ok {t e : TypeId} {us : Array Value} {k : AV → AHeap → Prop} (hT : TOk P T) (hg : Good G C) (hus : us.toList = [.pointer none, .slice none 0 0]) (h : newBK T C.s t e k) :
    ∃ C' av, C'.w = C.w.alloc (.cells us t) ∧ Good G C' ∧ Ext C C' ∧ RepV C' av (.pointer (some ⟨C.w.heap.size, 0, none⟩)) ∧ k av C'.s := by
  obtain ⟨te, hte, hsz, h⟩ := tyK_ok hT h
  have hpos : 0 < te.size := by
    cases hh : te.size with
    | zero => rw [hh] at hsz; exact hsz.elim
    | succ n => omega
  have h := h C.N
  rw [snocK_eq] at h
  obtain ⟨g1, g2, g3⟩ := good_nothing (e := e) hg hpos
  obtain ⟨C', av, h1, h2, h3, h4, h5⟩ := newK_ok (C := C.push C.w ⟨C.N, e, te.size, []⟩ (.slice none 0 0)) (us := us) g1 (by
    rw [hus]; simp only [RepL]
    refine ⟨_, _, rfl, by simp [RepV, RepF], _, _, rfl, g3, rfl⟩) h
  exact ⟨C', av, h1, h2, g2.trans h3, h4, h5⟩
def bldE (T : TT) (t : TypeId) (ti : TI) : Option TypeId :=
  match ti.d, ti.zero with
  | .struct [(0, p), (1, sl)], [.pointer none, .slice none 0 0] => match T.lookup p, T.lookup sl with
    | some tp, some ts => match tp.d, ts.d with
      | .ptr u, .slice e => match Nat.beq u t with | true => some e | false => none
      | _, _ => none
    | _, _ => none
  | _, _ => none
theorem bldE_zero {T : TT} {t e : TypeId} {ti : TI} (h : bldE T t ti = some e) : ti.zero = [.pointer none, .slice none 0 0] := by
  unfold bldE at h
  split at h
  · assumption
  · cases h
def allocW (T : TT) (t : TypeId) (s : AHeap) (k : AV → AHeap → Prop) : Prop := tyK T t fun ti => match bldE T t ti with
  | some e => newBK T s t e k
  | none => ofVsK ti.zero fun cs => newK s t cs k
theorem allocW_ok {t : TypeId} {k : AV → AHeap → Prop} (hT : TOk P T) (hg : Good G C) (h : allocW T t C.s k) :
    ∃ C' av r, (Instr.alloc t true (.tuple #[])).run P C.w = .ok r C'.w ∧ Good G C' ∧ Ext C C' ∧ RepV C' av r ∧ k av C'.s := by
  obtain ⟨ti, hti, h⟩ := tyK_ok hT h
  obtain ⟨z, hz, hzc⟩ := run_zeroValue' (P := P) C.w hti
  have fin : (∃ C' av, C'.w = C.w.alloc (.cells z.cells t) ∧ Good G C' ∧ Ext C C' ∧ RepV C' av (.pointer (some ⟨C.w.heap.size, 0, none⟩)) ∧ k av C'.s) →
      ∃ C' av r, (Instr.alloc t true (.tuple #[])).run P C.w = .ok r C'.w ∧ Good G C' ∧ Ext C C' ∧ RepV C' av r ∧ k av C'.s := by
    rintro ⟨C', av, h1, h2, h3, h4, h5⟩
    refine ⟨C', av, _, ?_, h2, h3, h4, h5⟩
    rw [h1]
    simp [Instr.alloc, hz, newVar, newRow]
  split at h
  · rename_i e he
    exact fin (newBK_ok hT hg (by rw [hzc]; exact bldE_zero he) h)
  · obtain ⟨cs, hcs, h⟩ := ofVsK_ok (C := C) h
    exact fin (newK_ok (us := z.cells) hg (by rw [hzc]; exact RepFL.repL _ _ hcs) h)
def boxW (t : TypeId) (s : AHeap) (a : AV) (k : AV → AHeap → Prop) : Prop := valK a fun cs => newK s t cs k
theorem boxW_ok {t : TypeId} {a : AV} {v : Value} {k : AV → AHeap → Prop} (hg : Good G C) (ha : RepV C a v) (h : boxW t C.s a k) :
    ∃ C' av r, (Instr.box t v).run P C.w = .ok r C'.w ∧ Good G C' ∧ Ext C C' ∧ RepV C' av r ∧ k av C'.s := by
  obtain ⟨cs, hcs, h⟩ := valK_ok ha h
  obtain ⟨C', av, h1, h2, h3, h4, h5⟩ := newK_ok hg hcs h
  refine ⟨C', av, _, ?_, h2, h3, h4, h5⟩
  rw [h1]
  simp [Instr.box, newVar, newRow]
theorem good_row {t : TypeId} {sz n cap : Nat} {es : List (List AV)} {xs : List Value} {cur : Array Value} {w : World} (hg : Good G C) (hh : w.heap = C.w.heap) (h1 : w.os = C.w.os) (h2 : w.tape = C.w.tape) (h3 : w.output = C.w.output)
    (hsz : 0 < sz) (hes : ∀ e ∈ es, e.length = sz) (hn : es.length = n) (hrep : RepLL C es xs) (hone : ∀ x ∈ xs, x.oneCell' = true) (hcap : n ≤ cap) (hmax : cap ≤ maxLen) (hcur : cur.size = cap * sz)
    (htake : cur.toList.take (n * sz) = xs) :
    let v : Value := .slice (some ⟨C.w.heap.size, 0, none⟩) n cap
    let C' := C.push (w.alloc (.cells cur t)) ⟨C.N, t, sz, es⟩ v
    Good G C' ∧ Ext C C' ∧ RepV C' (.sl C.s.length C.N) v := by
  intro v C'
  have hgrow : C.w.grownBy (w.alloc (.cells cur t)) none := ⟨h1, h2, h3, by simp [hh], fun k hk _ => by rw [RowKit.Below.heap_alloc w _ k (by rw [hh]; exact hk), hh]⟩
  have hfresh : ∀ g, v.ownBlock = some g → C.w.heap.size ≤ g := fun g hg => by simp [v, Value.ownBlock] at hg; omega
  have hown : (w.alloc (.cells cur t)).ownsRow 0 t sz v es.length xs := by
    refine ⟨RepLL.length hrep hes, .inr ⟨C.w.heap.size, cap, cur, by rw [hn], Nat.zero_le _, by rw [← hh]; exact heap_alloc_new w _, by omega, hmax, hcur, by rw [hn]; exact htake⟩⟩
  refine ⟨good_push hg hgrow rfl hfresh hsz hes hown hrep hone, ext_push hg hgrow rfl hfresh, ?_⟩
  exact repV_push hsz ⟨_, _, _, rfl⟩
theorem RepLL.replicate {e : List AV} {us : List Value} (h : RepL C e us) : ∀ n, RepLL C (List.replicate n e) (List.replicate n us).flatten
  | 0 => by simp [RepLL]
  | n + 1 => by simp only [List.replicate_succ, RepLL, List.flatten_cons]; exact ⟨us, _, rfl, h, RepLL.replicate h n⟩
theorem madeCells_eq (z : Array Value) (hz : 0 < z.size) (n : Nat) : (madeCells z (n * z.size)).toList = (List.replicate n z.toList).flatten := by
  apply List.ext_getElem?
  intro j
  induction n generalizing j with
  | zero => simp [madeCells]
  | succ n ih =>
    simp only [List.replicate_succ, List.flatten_cons]
    rw [List.getElem?_append]
    simp only [Array.length_toList]
    by_cases hj : j < z.size
    · rw [if_pos hj]
      have : j < (n + 1) * z.size := by rw [Nat.add_mul]; omega
      simp [madeCells, this, hj, Nat.mod_eq_of_lt hj]
    · rw [if_neg hj, ← ih (j - z.size)]
      by_cases hj2 : j < (n + 1) * z.size
      · have h1 : j - z.size < n * z.size := by rw [Nat.add_mul] at hj2; omega
        have h2 : (j - z.size) % z.size = j % z.size := by
          rw [← Nat.mod_eq_sub_mod (by omega)]
        simp [madeCells, hj2, h1, h2]
      · have h1 : ¬ j - z.size < n * z.size := by rw [Nat.add_mul] at hj2; omega
        simp [madeCells, hj2, h1]
def makeSliceW (T : TT) (t : TypeId) (s : AHeap) (l c : AV) (k : AV → AHeap → Prop) : Prop :=
  match l, c with
  | .int _ l, .int _ c => tyK T t fun ti => match ti.d with
    | .slice e => tyK T e fun te => ofVsK te.zero fun cs => match cs with
      | [] => False
      | z :: zs => ones (z :: zs) = true ∧ (z :: zs).length = te.size ∧ (0 ≤ l ∧ l ≤ c ∧ (te.bytes : Int) * c ≤ 281474976710656 ∧ c ≤ 9223372036854775807) ∧
          ∀ ver, snocK s ⟨ver, e, te.size, List.replicate l.toNat (z :: zs)⟩ fun n s' => k (.sl n ver) s'
    | _ => False
  | _, _ => False
theorem makeSliceW_ok {t : TypeId} {l c : AV} {vl vc : Value} {k : AV → AHeap → Prop} (hT : TOk P T) (hg : Good G C) (hl : RepV C l vl) (hc : RepV C c vc) (h : makeSliceW T t C.s l c k) :
    ∃ C' av r, (Instr.makeSlice t vl vc).run P C.w = .ok r C'.w ∧ Good G C' ∧ Ext C C' ∧ RepV C' av r ∧ k av C'.s := by
  unfold makeSliceW at h
  split at h
  · rename_i kl l kc c
    simp only [RepV, RepF] at hl hc
    subst hl; subst hc
    obtain ⟨ti, hti, h⟩ := tyK_ok hT h
    split at h
    · rename_i e hd
      obtain ⟨te, hte, h⟩ := tyK_ok hT h
      obtain ⟨cs, hcs, h⟩ := ofVsK_ok (C := C) h
      split at h
      · exact h.elim
      · rename_i z zs
        obtain ⟨ho, hlen, ⟨h0, h1, h2, h3⟩, h⟩ := h
        have h := h C.N
        rw [snocK_eq] at h
        obtain ⟨i, hi, his, hib, zv, hz, hzc⟩ := hte.info
        have hzr : RepL C (z :: zs) zv.cells.toList := by rw [hzc]; exact RepFL.repL _ _ hcs
        have hzl : zv.cells.size = te.size := by rw [← hlen, ← RepL.length hzr]; simp
        have hpos : 0 < te.size := by rw [← hlen]; simp
        have hrun := run_make (P := P) C.w t e i zv (und_slice hti hd) hi hz kl kc l c h0 h1 (by rw [hib]; exact h2) h3
        rw [his] at hrun
        have hmc : (madeCells zv.cells (c.toNat * te.size)).toList = (List.replicate c.toNat zv.cells.toList).flatten := by rw [← hzl]; exact madeCells_eq _ (by omega) _
        have htake : (madeCells zv.cells (c.toNat * te.size)).toList.take (l.toNat * te.size) = (List.replicate l.toNat zv.cells.toList).flatten := by
          rw [hmc]
          have hsplit : List.replicate c.toNat zv.cells.toList = List.replicate l.toNat zv.cells.toList ++ List.replicate (c.toNat - l.toNat) zv.cells.toList := by
            rw [List.replicate_append_replicate]; congr 1; omega
          rw [hsplit, List.flatten_append]
          apply List.take_left'
          simp [hzl]
        obtain ⟨g1, g2, g3⟩ := good_row (t := e) (sz := te.size) (n := l.toNat) (cap := c.toNat) (es := List.replicate l.toNat (z :: zs)) hg rfl rfl rfl rfl hpos
          (fun x hx => by rw [List.eq_of_mem_replicate hx]; exact hlen) (by simp) (RepLL.replicate hzr l.toNat)
          (fun x hx => by
            obtain ⟨y, hy, hx⟩ := List.mem_flatten.1 hx
            rw [List.eq_of_mem_replicate hy] at hx
            exact ones_ok hzr ho x hx) (by omega) (by unfold maxLen; omega) (by rw [size_madeCells]) htake
        exact ⟨_, _, _, hrun, g1, g2, g3, h⟩
    · exact h.elim
  · exact h.elim
def elemsK (s : AHeap) (a : AV) (k : List (List AV) → Prop) : Prop :=
  match a with
  | .nils => k []
  | .fsl es => k es
  | .sl i ver => objK s i fun o => o.ver = ver ∧ k o.es
  | _ => False
def appendW (T : TT) (t : TypeId) (s : AHeap) (a x : AV) (k : AV → AHeap → Prop) : Prop :=
  tyK T t fun ti => match ti.d with
    | .slice e => tyK T e fun te => match te.size with
      | 0 => False
      | _ + 1 => elemsK s x fun new => ((∀ y ∈ new, y.length = te.size) ∧ ∀ y ∈ new, ones y = true) ∧ (te.zero.length = te.size ∧ True) ∧ match a with
        | .nils => (new.length ≤ maxLen ∧ new.length * te.bytes ≤ 140737488355328) ∧ ∀ ver, snocK s ⟨ver, e, te.size, new⟩ fun n s' => k (.sl n ver) s'
        | .sl i ver => objK s i fun o => o.ver = ver ∧ o.t = e ∧ o.sz = te.size ∧ (o.es.length + new.length ≤ maxLen ∧ (o.es.length + new.length) * te.bytes ≤ 140737488355328) ∧
            ∀ ver', setHK s i ⟨ver', o.t, o.sz, o.es ++ new⟩ fun s' => k (.sl i ver') s'
        | _ => False
    | _ => False
theorem onesLL_ok : ∀ {es : List (List AV)} {us : List Value}, RepLL C es us → (∀ y ∈ es, ones y = true) → ∀ u ∈ us, u.oneCell' = true
  | [], us, h, _, u, hu => by simp only [RepLL] at h; subst h; cases hu
  | e :: es, us, h, h1, u, hu => by
    simp only [RepLL] at h
    obtain ⟨p, r, rfl, h2, h3⟩ := h
    rcases List.mem_append.1 hu with hu | hu
    · exact ones_ok h2 (h1 e (by simp)) u hu
    · exact onesLL_ok h3 (fun y hy => h1 y (by simp [hy])) u hu
theorem RepFLL.repLL : ∀ {es : List (List AV)} {us : List Value}, RepFLL C es us → RepLL C es us
  | [], us, hr => by simp only [RepFLL] at hr; simp only [RepLL]; exact hr
  | e :: es, us, hr => by
    simp only [RepFLL] at hr
    simp only [RepLL]
    obtain ⟨p, r, rfl, h1, h2⟩ := hr
    exact ⟨p, r, rfl, RepFL.repL e p h1, RepFLL.repLL h2⟩
theorem elemsK_ok {a : AV} {v : Value} {k : List (List AV) → Prop} (hg : Good G C) (hr : RepV C a v) (h : elemsK C.s a k) :
    ∃ es us, RepLL C es us ∧ k es ∧ ((es = [] ∧ v = .slice none 0 0) ∨ ∃ p cap, v = .slice (some p) es.length cap ∧ ∀ j u, us[j]? = some u → C.w.cell? (p.add j) = some u) := by
  unfold elemsK at h
  split at h
  · simp only [RepV, RepF] at hr
    exact ⟨[], [], by simp [RepLL], h, .inl ⟨rfl, hr⟩⟩
  · rename_i es
    simp only [RepV, RepF] at hr
    obtain ⟨a, cap, _, rfl, hr⟩ := hr
    rcases hr with ⟨rfl, hr⟩ | ⟨b, off, us, rfl, hb, hrd, hl⟩
    · cases a with
      | none => rw [hr rfl]; exact ⟨[], [], by simp [RepLL], h, .inl ⟨rfl, rfl⟩⟩
      | some p => exact ⟨[], [], by simp [RepLL], h, .inr ⟨p, cap, rfl, fun j u hu => by simp at hu⟩⟩
    · exact ⟨es, us, RepFLL.repLL hl, h, .inr ⟨_, cap, rfl, fun j u hu => by rw [Addr.add_lit]; exact hrd j u hu⟩⟩
  · rename_i i ver
    obtain ⟨o, ho, hver, h⟩ := objK_ok h
    simp only [RepV] at hr
    obtain ⟨hz, hv⟩ := hr.2.2 o ho hver
    obtain ⟨_, _, hes, xs, hown, hrep, _⟩ := hg.obj i o ho
    have hown := hown.row hz
    refine ⟨o.es, xs, hrep, h, ?_⟩
    rcases hown.2 with ⟨h1, h2⟩ | ⟨g, cap, cur, h1, _, hgc, _, _, _, htake⟩
    · exact .inl ⟨List.eq_nil_of_length_eq_zero h2, by rw [hv, h1]⟩
    · exact .inr ⟨_, cap, by rw [hv, h1], fun j u hu => hown.cells (g := g) (by rw [h1]; rfl) j u hu⟩
  · exact h.elim
theorem append_block (w : World) (t ty e : TypeId) (i : TypeInfo) (z : Value) (ht : P.underlying t = some (.slice e)) (hi : P.info? e = some i) (hz : i.zero = some z)
    (v : Value) (n : Nat) (xs : List Value) (hown : w.ownsRow 0 e i.size v n xs) (a : Addr) (m c : Nat) (news : List Value) (hl : news.length = m * i.size)
    (hnews : ∀ j u, news[j]? = some u → w.cell? (a.add j) = some u) (h1 : ∀ u ∈ news, u.oneCell' = true) (h63 : n + m ≤ maxLen) (hbytes : (n + m) * i.bytes ≤ 140737488355328)
    {v' : Value} {w' : World} (hr : (Builtin.append_ #[t, t] ty #[v, .slice (some a) m c]).run P w = .ok v' w') : ∀ g, v'.ownBlock = some g → v.ownBlock = some g ∨ w.heap.size ≤ g := by
  have hsmall : n + m ≤ 9223372036854775807 := by simp only [maxLen] at h63; omega
  intro g hgb
  rcases hown.2 with ⟨rfl, rfl⟩ | ⟨g', cap, cur, rfl, _, hg, hnc, hcm, hcs, htake⟩
  · by_cases hm : m = 0
    · subst hm
      have h := Result.ok.inj (hr.symm.trans (show _ = Result.ok (Value.slice none 0 0) w by simp [Builtin.append_, run_underlying ht, sizeOf, typeInfo, hi, Builtin.lenOf, Builtin.firstCells, loadCells, loadCellsFrom]))
      rw [h.1] at hgb; simp [Value.ownBlock] at hgb
    · have h := Result.ok.inj (hr.symm.trans (run_append_nil (P := P) w t ty e i z ht hi hz a m c news hl hnews (by omega) (by omega) (by simp only [Nat.zero_add] at hbytes; omega)))
      rw [h.1] at hgb; simp [Value.ownBlock] at hgb; right; omega
  · by_cases hroom : n + m ≤ cap
    · have hfit : n * i.size + news.length ≤ cur.size := by rw [hl, hcs, ← Nat.add_mul]; exact Nat.mul_le_mul_right _ hroom
      have h := Result.ok.inj (hr.symm.trans (run_append_room (P := P) w t ty e i ht hi g' n cap cur hg a m c news hl hnews h1 hroom hfit))
      rw [h.1] at hgb; left; simpa [Value.ownBlock] using hgb
    · have holds : ∀ j u, xs[j]? = some u → w.cell? ((⟨g', 0, none⟩ : Addr).add j) = some u := hown.cells (g := g') rfl
      have h := Result.ok.inj (hr.symm.trans (run_append_grow (P := P) w t ty e i z ht hi hz ⟨g', 0, none⟩ n cap xs hown.1 holds a m c news hl hnews (by omega) (by omega) (growslice_fits (by omega) hbytes)))
      rw [h.1] at hgb; simp [Value.ownBlock] at hgb; right; omega
theorem appendW_ok {t ty : TypeId} {a x : AV} {v u : Value} {k : AV → AHeap → Prop} (hT : TOk P T) (hg : Good G C) (ha : RepV C a v) (hx : RepV C x u) (h : appendW T t C.s a x k) :
    ∃ C' av r, (Builtin.append_ #[t, t] ty #[v, u]).run P C.w = .ok r C'.w ∧ Good G C' ∧ Ext C C' ∧ RepV C' av r ∧ k av C'.s := by
  obtain ⟨ti, hti, h1⟩ := tyK_ok hT h
  clear h
  have h := h1
  clear h1
  split at h
  · rename_i e hd
    obtain ⟨⟨td, tsz, tby, tz, tc⟩, hte, h2⟩ := tyK_ok hT h
    clear h
    obtain ⟨i, hi, his, hib, zv, hz, hzc⟩ := hte.info
    have hu := und_slice hti hd
    dsimp only at his hib hzc h2
    split at h2
    · exact h2.elim
    · rename_i m
      have hpos : 0 < i.size := by rw [his]; exact Nat.succ_pos m
      have h := h2
      clear h2
      rw [← his] at h
      rw [← hib] at h
      obtain ⟨new, us, hnew, ⟨⟨hnl, hno⟩, h⟩, hsrc⟩ := elemsK_ok hg hx h
      have hul := RepLL.length hnew hnl
      have hone := onesLL_ok hnew hno
      -- the machine's append at a row that is owned
      have main : ∀ (n : Nat) (xs : List Value), C.w.ownsRow 0 e i.size v n xs → n + new.length ≤ maxLen → (n + new.length) * i.bytes ≤ 140737488355328 → zv.cells.size = i.size →
          ∃ v' w', (Builtin.append_ #[t, t] ty #[v, u]).run P C.w = .ok v' w' ∧ w'.ownsRow 0 e i.size v' (n + new.length) (xs ++ us) ∧ C.w.grownBy w' v.ownBlock ∧ (∀ g, v'.ownBlock = some g → C.w.heap.size ≤ g ∨ v.ownBlock = some g) ∧ (∃ a l c, v' = .slice a l c) := by
        intro n xs hown h1 h2 h3
        rcases hsrc with ⟨rfl, rfl⟩ | ⟨p, cap, rfl, hcell⟩
        · simp only [RepLL] at hnew
          subst hnew
          refine ⟨v, C.w, run_append_owned_none (P := P) (w := C.w) 0 t ty e i i.size hu hi v n xs hown, by simpa using hown, ⟨rfl, rfl, rfl, Nat.le_refl _, fun _ _ _ => rfl⟩, fun g hg => .inr hg, ?_⟩
          rcases hown.2 with ⟨rfl, _⟩ | ⟨g, cap, cur, rfl, _⟩ <;> exact ⟨_, _, _, rfl⟩
        · obtain ⟨v', w', hr, hown', hgrow, _⟩ := run_append_own (P := P) C.w 0 t ty e i zv i.size i.bytes hu hi hz rfl rfl h3 hpos v n xs hown p new.length cap us hul hcell hone h1 h2 (Nat.zero_le _)
          refine ⟨v', w', hr, hown', hgrow, fun g hgb => (append_block (P := P) C.w t ty e i zv hu hi hz v n xs hown p new.length cap us hul hcell hone h1 h2 hr g hgb).symm, ?_⟩
          rcases hown'.2 with ⟨rfl, _⟩ | ⟨g, cap, cur, rfl, _⟩ <;> exact ⟨_, _, _, rfl⟩
      obtain ⟨⟨hzs, hcap⟩, h⟩ := h
      have hzs : zv.cells.size = i.size := by rw [← hzs, ← hzc]; simp
      cases a
      case nils =>
        simp only [RepV, RepF] at ha
        subst ha
        obtain ⟨⟨h1, h2⟩, h⟩ := h
        have h := h C.N
        rw [snocK_eq] at h
        obtain ⟨v', w', hr, hown', hgrow, hfresh, hsl⟩ := main 0 [] (World.ownsRow_nil _ _ _ _) (by omega) (by simpa using h2) hzs
        simp only [Nat.zero_add, List.nil_append] at hown'
        have hgrow' : C.w.grownBy w' none := by simpa [Value.ownBlock] using hgrow
        have hfresh' : ∀ g, v'.ownBlock = some g → C.w.heap.size ≤ g := fun g hg => by rcases hfresh g hg with h | h; exact h; simp [Value.ownBlock] at h
        refine ⟨C.push w' ⟨C.N, e, i.size, new⟩ v', _, v', hr, good_push hg hgrow' rfl hfresh' hpos hnl hown' hnew hone, ext_push hg hgrow' rfl hfresh', ?_, h⟩
        exact repV_push hpos hsl
      case sl j ver _ =>
        obtain ⟨o, ho, hver, ht, hsz, ⟨h1, h2⟩, h⟩ := objK_ok h
        have h := h C.N
        rw [setHK_eq] at h
        obtain ⟨a1, a2, a3, xs, a4, a5, a6⟩ := hg.obj j o ho
        simp only [RepV] at ha
        obtain ⟨hz, hv⟩ := ha.2.2 o ho hver
        have a4 := a4.row hz
        rw [wd_of hz] at a3
        obtain ⟨v', w', hr, hown', hgrow, hfresh, hsl⟩ := main o.es.length xs (by rw [hv, ← ht, ← hsz]; exact a4) h1 h2 hzs
        rw [hv] at hgrow hfresh
        have hlen : (o.es ++ new).length = o.es.length + new.length := by simp
        refine ⟨C.repl w' j ⟨C.N, o.t, o.sz, o.es ++ new⟩ v', _, v', hr, ?_, ext_repl hg ho hgrow (.inl rfl) hfresh, ?_, h⟩
        · refine good_repl hg ho hgrow (.inl rfl) hfresh hz ?_ (xs := xs ++ us) ?_ (RepLL.append a5 hnew) ?_
          · intro x hx
            rcases List.mem_append.1 hx with hx | hx
            · exact a3 x hx
            · rw [hsz]; exact hnl x hx
          · rw [hlen, ht, hsz]; exact hown'
          · intro x hx
            rcases List.mem_append.1 hx with hx | hx
            · exact a6 x hx
            · exact hone x hx
        · exact repV_repl hz hsl
      all_goals exact h.elim
  · exact h.elim
def byteEs' (l : List UInt8) : List (List AV) := l.map fun b => [.int .u8 (b.toNat : Int)]
def appendSW (T : TT) (t t' : TypeId) (s : AHeap) (a x : AV) (k : AV → AHeap → Prop) : Prop :=
  tyK T t fun ti => tyK T t' fun ti' => match ti.d, ti'.d, x with
    | .slice e, .str, .str l => tyK T e fun te => match te.d with
      | .int .u8 => (te.size = 1 ∧ te.bytes = 1 ∧ te.zero = [.int .u8 0]) ∧ match a with
        | .sl i ver => objK s i fun o => o.ver = ver ∧ o.t = e ∧ o.sz = 1 ∧ o.es.length + l.length ≤ 140737488355328 ∧
            ∀ ver', setHK s i ⟨ver', o.t, o.sz, o.es ++ byteEs' l⟩ fun s' => k (.sl i ver') s'
        | _ => False
      | _ => False
    | _, _, _ => False
theorem RepLL_bytes' (C : Ctx) : ∀ l : List UInt8, RepLL C (byteEs' l) (Lib.strCells ⟨⟨l⟩⟩)
  | [] => by simp [byteEs', RepLL, Lib.strCells]
  | b :: l => by
    have ih := RepLL_bytes' C l
    simp only [Lib.strCells] at ih ⊢
    simp only [byteEs', List.map_cons, RepLL] at ih ⊢
    refine ⟨[.int .u8 (b.toNat : Int)], _, rfl, ?_, ih⟩
    simp [RepL, RepV, RepF]
theorem append_block_string (w : World) (t u ty e : TypeId) (i : TypeInfo) (ht : P.underlying t = some (.slice e)) (hu : P.underlying u = some .string) (hi : P.info? e = some i) (hz : i.zero = some (.int .u8 0))
    (hsize : i.size = 1) (hby : i.bytes = 1) (v : Value) (n : Nat) (xs : List Value) (hown : w.ownsRow 0 e 1 v n xs) (s : ByteArray) (h63 : n + s.size ≤ maxLen) (hbytes : n + s.size ≤ 140737488355328)
    {v' : Value} {w' : World} (hr : (Builtin.append_ #[t, u] ty #[v, .string s]).run P w = .ok v' w') : ∀ g, v'.ownBlock = some g → v.ownBlock = some g ∨ w.heap.size ≤ g := by
  have hsmall : n + s.size ≤ 9223372036854775807 := by simp only [maxLen] at h63; omega
  have hxl : xs.length = n := by simpa using hown.1
  intro g hgb
  rcases hown.2 with ⟨rfl, rfl⟩ | ⟨g', cap, cur, rfl, hbg, hg, hnc, hcm, hcs, htake⟩
  · by_cases hm : s.size = 0
    · have hf := Lib.run_firstCells_string (P := P) w 1 s
      rw [hm] at hf
      have h := Result.ok.inj (hr.symm.trans (show _ = Result.ok (Value.slice none 0 0) w by simp [Builtin.append_, run_underlying ht, run_underlying hu, sizeOf, typeInfo, hi, hsize, Builtin.lenOf, hm, hf]))
      rw [h.1] at hgb; simp [Value.ownBlock] at hgb
    · have h := Result.ok.inj (hr.symm.trans (run_append_nil_string (P := P) w t u ty e i (.int .u8 0) ht hu hi hz s (by omega) (by omega) (by rw [hby]; omega)))
      rw [h.1] at hgb; simp [Value.ownBlock] at hgb; right; omega
  · by_cases hroom : n + s.size ≤ cap
    · have hcs' : cur.size = cap := by simpa using hcs
      have h := Result.ok.inj (hr.symm.trans (Lib.run_append_room_string (P := P) w t u ty e i ht hu hi hsize g' n cap cur hg s hroom (by omega)))
      rw [h.1] at hgb; left; simpa [Value.ownBlock] using hgb
    · have holds : ∀ j u, xs[j]? = some u → w.cell? ((⟨g', 0, none⟩ : Addr).add j) = some u := hown.cells (g := g') rfl
      have h := Result.ok.inj (hr.symm.trans (Lib.run_append_grow_string (P := P) w t u ty e i (.int .u8 0) ht hu hi hz ⟨g', 0, none⟩ n cap xs (by rw [hsize]; simpa using hxl) holds s (by omega) (by omega) (by rw [hby]; exact growslice_fits (by omega) (by omega))))
      rw [h.1] at hgb; simp [Value.ownBlock] at hgb; right; omega
theorem appendSW_ok {t t' ty : TypeId} {a x : AV} {v u : Value} {k : AV → AHeap → Prop} (hT : TOk P T) (hg : Good G C) (ha : RepV C a v) (hx : RepV C x u) (h : appendSW T t t' C.s a x k) :
    ∃ C' av r, (Builtin.append_ #[t, t'] ty #[v, u]).run P C.w = .ok r C'.w ∧ Good G C' ∧ Ext C C' ∧ RepV C' av r ∧ k av C'.s := by
  obtain ⟨ti, hti, h1⟩ := tyK_ok hT h
  clear h
  obtain ⟨ti', hti', h⟩ := tyK_ok hT h1
  clear h1
  split at h
  · rename_i e l hd hd'
    obtain ⟨te, hte, h1⟩ := tyK_ok hT h
    clear h
    have h := h1
    clear h1
    split at h
    · rename_i hde
      obtain ⟨⟨hs1, hb1, hz1⟩, h⟩ := h
      cases a
      case sl j ver =>
        obtain ⟨o, ho, hver, ht, hsz, hle, h⟩ := objK_ok h
        have h := h C.N
        rw [setHK_eq] at h
        obtain ⟨a1, a2, a3, xs, a4, a5, a6⟩ := hg.obj j o ho
        simp only [RepV] at ha
        obtain ⟨hpo, hv⟩ := ha.2.2 o ho hver
        have a4 := a4.row hpo
        rw [wd_of hpo] at a3
        simp only [RepV, RepF] at hx
        subst hx
        obtain ⟨i, hi, his, hib, zv, hz, hzc⟩ := hte.info
        have hzv : zv = .int .u8 0 := by
          obtain ⟨i2, v2, q1, q2, q3⟩ := hte.plain (by simp [TI.agg, hde])
          have := q1.symm.trans hi
          simp only [Option.some.injEq] at this
          subst this
          have := q2.symm.trans hz
          simp only [Option.some.injEq] at this
          subst this
          rw [hz1] at q3
          simpa using q3.symm
        rw [hzv] at hz
        have hsl : (⟨⟨l⟩⟩ : ByteArray).size = l.length := rfl
        have hown : C.w.ownsRow 0 e 1 v o.es.length xs := by rw [hv, ← ht]; rw [hsz] at a4; exact a4
        obtain ⟨v', w', hr, hown', hgrow, hnil⟩ := Lib.run_append_own_string (P := P) (w := C.w) 0 t t' ty e i (und_slice hti hd) (und_str hti' hd') hi hz (by rw [his]; exact hs1) (by rw [hib]; exact hb1) v o.es.length xs hown ⟨⟨l⟩⟩ (by unfold maxLen; rw [hsl]; omega) (by rw [hsl]; omega) (Nat.zero_le _)
        have hfresh := append_block_string (P := P) C.w t t' ty e i (und_slice hti hd) (und_str hti' hd') hi hz (by rw [his]; exact hs1) (by rw [hib]; exact hb1) v o.es.length xs hown ⟨⟨l⟩⟩ (by unfold maxLen; rw [hsl]; omega) (by rw [hsl]; omega) hr
        rw [hv] at hgrow hfresh
        rw [hsl] at hown'
        have hbl : (byteEs' l).length = l.length := by simp [byteEs']
        refine ⟨C.repl w' j ⟨C.N, o.t, o.sz, o.es ++ byteEs' l⟩ v', _, v', hr, ?_, ext_repl hg ho hgrow (.inl rfl) (fun g h => (hfresh g h).symm), ?_, h⟩
        · refine good_repl hg ho hgrow (.inl rfl) (fun g h => (hfresh g h).symm) hpo ?_ (xs := xs ++ Lib.strCells ⟨⟨l⟩⟩) ?_ (RepLL.append a5 (RepLL_bytes' _ l)) ?_
          · intro y hy
            rcases List.mem_append.1 hy with hy | hy
            · exact a3 y hy
            · simp only [byteEs', List.mem_map] at hy
              obtain ⟨b, _, rfl⟩ := hy
              rw [hsz]; rfl
          · simp only [List.length_append, hbl]; rw [ht, hsz]; exact hown'
          · intro y hy
            rcases List.mem_append.1 hy with hy | hy
            · exact a6 y hy
            · exact Lib.strCells_oneCell _ y hy
        · refine repV_repl hpo ?_
          rcases hown'.2 with ⟨rfl, _⟩ | ⟨g, cap, cur, rfl, _⟩ <;> exact ⟨_, _, _, rfl⟩
      all_goals exact h.elim
    · exact h.elim
  · exact h.elim
end
end Go.Abs
/- All operations that the clean state follows by itself. -/
namespace Go.Abs
open Go
def byteEs (l : List UInt8) : List (List AV) := l.map fun b => [.int .u8 (b.toNat : Int)]
section
variable {P : Program} {G : Globs} {T : TT} {C : Ctx}
def YieldsA (P : Program) (G : Globs) (C : Ctx) (x : Sem Value) (K : AV → AHeap → Prop) : Prop :=
  ∃ C' av r, x.run P C.w = .ok r C'.w ∧ Good G C' ∧ Ext C C' ∧ RepV C' av r ∧ K av C'.s
theorem YieldsA.same {x : Sem Value} {K : AV → AHeap → Prop} {av : AV} {r : Value} (hg : Good G C) (h : x.run P C.w = .ok r C.w) (hr : RepV C av r) (hk : K av C.s) : YieldsA P G C x K :=
  ⟨C, av, r, h, hg, Ext.refl C, hr, hk⟩
def CmpW (b : Bool) (K : Bool → Prop) : Prop := K b
theorem CmpW.t {b : Bool} {K : Bool → Prop} (h : b = true) (k : K true) : CmpW b K := by subst h; exact k
theorem CmpW.f {b : Bool} {K : Bool → Prop} (h : b = false) (k : K false) : CmpW b K := by subst h; exact k
theorem CmpW.s {b : Bool} {K : Bool → Prop} (k : K b) : CmpW b K := k
theorem CmpW.split {b : Bool} {K : Bool → Prop} (h : b = true → K true) (k : b = false → K false) : CmpW b K := by cases b; exact k rfl; exact h rfl
def binIntW (op : BinOp) (k : IntKind) (a b : Int) (K : AV → Prop) : Prop :=
  match op with
  | .add => ∃ r, k.wrap (a + b) = r ∧ K (.int k r)
  | .sub => ∃ r, k.wrap (a - b) = r ∧ K (.int k r)
  | .mul => ∃ r, k.wrap (a * b) = r ∧ K (.int k r)
  | .quo => b ≠ 0 ∧ ∃ r, k.wrap (a.tdiv b) = r ∧ K (.int k r)
  | .rem => b ≠ 0 ∧ ∃ r, a.tmod b = r ∧ K (.int k r)
  | .and => ∃ r, k.wrap (BitVec.ofInt k.bits a &&& BitVec.ofInt k.bits b).toNat = r ∧ K (.int k r)
  | .or => ∃ r, k.wrap (BitVec.ofInt k.bits a ||| BitVec.ofInt k.bits b).toNat = r ∧ K (.int k r)
  | .xor => ∃ r, k.wrap (BitVec.ofInt k.bits a ^^^ BitVec.ofInt k.bits b).toNat = r ∧ K (.int k r)
  | .eql => CmpW (a == b) fun r => K (.bool r)
  | .neq => CmpW (a != b) fun r => K (.bool r)
  | .lss => CmpW (decide (a < b)) fun r => K (.bool r)
  | .leq => CmpW (decide (a ≤ b)) fun r => K (.bool r)
  | .gtr => CmpW (decide (a > b)) fun r => K (.bool r)
  | .geq => CmpW (decide (a ≥ b)) fun r => K (.bool r)
  | _ => False
def binStrW (op : BinOp) (a b : List UInt8) (K : AV → Prop) : Prop :=
  match op with
  | .add => ((a.length + b.length : Nat) : Int) ≤ 9223372036854775807 ∧ K (.str (a ++ b))
  | .eql => CmpW (a == b) fun r => K (.bool r)
  | .neq => CmpW (!(a == b)) fun r => K (.bool r)
  | .lss => CmpW (Op.bytesLess a b) fun r => K (.bool r)
  | .leq => CmpW (Op.bytesLess a b || a == b) fun r => K (.bool r)
  | .gtr => CmpW (!(Op.bytesLess a b || a == b)) fun r => K (.bool r)
  | .geq => CmpW (!Op.bytesLess a b) fun r => K (.bool r)
  | _ => False
def isNil : AV → Bool
  | .nilp | .nils | .nili | .nilf => true
  | _ => false
def eqW (T : TT) (t : TypeId) (a b : AV) (K : Bool → Prop) : Prop :=
  match a, b with
  | .bool x, .bool y => tyK T t fun ti => match ti.d with | .bool => K (x == y) | _ => False
  | .nilp, .nilp => tyK T t fun ti => match ti.d with | .ptr _ => K true | _ => False
  | .fptr _, .nilp => tyK T t fun ti => match ti.d with | .ptr _ => K false | _ => False
  | .nils, .nils => tyK T t fun ti => match ti.d with | .slice _ => K true | _ => False
  | .iface _ _, .nili => tyK T t fun ti => match ti.d with | .iface => K false | _ => False
  | .nilf, .nilf => tyK T t fun ti => match ti.d with | .func => K true | _ => False
  | .func _ _ _, .nilf => tyK T t fun ti => match ti.d with | .func => K false | _ => False
  | _, _ => False
def binW (T : TT) (op : BinOp) (t : TypeId) (a b : AV) (K : AV → Prop) : Prop :=
  match a, b with
  | .int k a, .int k' b => match op with
    | .shl => 0 ≤ b ∧ ∃ r, k.wrap (a * 2 ^ (min b.toNat k.bits)) = r ∧ K (.int k r)
    | .shr => 0 ≤ b ∧ ∃ r, a.fdiv (2 ^ (min b.toNat k.bits)) = r ∧ K (.int k r)
    | op => k = k' ∧ binIntW op k a b K
  | .str a, .str b => binStrW op a b K
  | a, b => match op with
    | .eql => eqW T t a b fun x => K (.bool x)
    | .neq => eqW T t a b fun x => K (.bool (!x))
    | _ => False
theorem str_size (s : List UInt8) : (⟨⟨s⟩⟩ : ByteArray).size = s.length := rfl
theorem ba_toList (s : List UInt8) : (⟨⟨s⟩⟩ : ByteArray).toList = s := by
  have h : ∀ (n : Nat) (i : Nat) (r : List UInt8), s.length - i = n → ByteArray.toList.loop ⟨⟨s⟩⟩ i r = r.reverse ++ s.drop i := by
    intro n
    induction n with
    | zero =>
      intro i r hn
      unfold ByteArray.toList.loop
      rw [if_neg (by show ¬ i < s.length; omega), List.drop_of_length_le (by omega)]; simp
    | succ n ih =>
      intro i r hn
      have hi : i < s.length := by omega
      unfold ByteArray.toList.loop
      rw [if_pos (by show i < s.length; exact hi), ih (i + 1) _ (by omega), List.drop_eq_getElem_cons hi]
      simp [ByteArray.get!, hi]
  have := h _ 0 [] rfl
  simpa [ByteArray.toList] using this
theorem ba_append (a b : List UInt8) : (⟨⟨a⟩⟩ : ByteArray) ++ (⟨⟨b⟩⟩ : ByteArray) = ⟨⟨a ++ b⟩⟩ := by
  apply ByteArray.ext
  simp
theorem binIntW_ok {op : BinOp} {t : TypeId} {k : IntKind} {a b : Int} {K : AV → Prop} (h : binIntW op k a b K) (hs : op ≠ .shl) (hs' : op ≠ .shr) :
    ∃ av r, (∀ w, (binOp op t (.int k a) (.int k b)).run P w = .ok r w) ∧ RepV C av r ∧ K av := by
  cases op <;> simp only [binIntW] at h <;> first
    | exact h.elim
    | (obtain ⟨h0, r, rfl, h⟩ := h; exact ⟨_, _, fun w => by simp [binOp, Op.intDiv, h0]; rfl, by simp only [RepV, RepF], h⟩)
    | (obtain ⟨r, rfl, h⟩ := h; exact ⟨_, _, fun w => by first | (simp [binOp, Op.intArith]; rfl) | (simp only [binOp, ne_eq, not_true_eq_false, if_false, Op.intBits, Sem.run_pure]; rfl), by simp only [RepV, RepF], h⟩)
    | exact ⟨_, _, fun w => by simp [binOp, Op.intCmp]; rfl, by simp only [RepV, RepF], h⟩
    | exact absurd rfl hs
    | exact absurd rfl hs'
theorem binStrW_ok {op : BinOp} {t : TypeId} {a b : List UInt8} {K : AV → Prop} (h : binStrW op a b K) :
    ∃ av r, (∀ w, (binOp op t (.string ⟨⟨a⟩⟩) (.string ⟨⟨b⟩⟩)).run P w = .ok r w) ∧ RepV C av r ∧ K av := by
  cases op <;> simp only [binStrW] at h <;> first
    | exact h.elim
    | (obtain ⟨h0, h⟩ := h
       have h0' : ¬ ((9223372036854775807 : Int) < (a.length : Int) + (b.length : Int)) := by omega
       refine ⟨_, .string ⟨⟨a ++ b⟩⟩, fun w => ?_, by simp only [RepV, RepF], h⟩
       simp [binOp, Op.stringOp, str_size, ba_append, h0', IntKind.max, IntKind.bits, IntKind.signed])
    | exact ⟨_, _, fun w => by simp only [binOp, Op.stringOp, ba_toList, Sem.run_pure]; rfl, by simp only [RepV, RepF], h⟩
theorem eqW_ok {t : TypeId} {a b : AV} {u v : Value} {K : Bool → Prop} (hT : TOk P T) (ha : RepV C a u) (hb : RepV C b v) (h : eqW T t a b K) :
    ∃ r, (∀ w, (Op.equal t u v).run P w = .ok r w) ∧ K r := by
  unfold eqW at h
  split at h
  all_goals first | exact h.elim | skip
  all_goals
    simp only [RepV, RepF] at ha hb
    obtain ⟨ti, hti, h⟩ := tyK_ok hT h
    obtain ⟨d, hd, hk⟩ := hti.und
    split at h
    all_goals first | exact h.elim | skip
    all_goals
      rename_i hdd
      rw [hdd] at hk
      cases d <;> simp [TD.of] at hk
  all_goals
    have hq : ∀ u v, Op.equal t u v = Op.equalIn (9999 + 1) t u v := fun _ _ => rfl
    simp only [hq]
    generalize 9999 = n
  · subst ha; subst hb; exact ⟨_, fun w => by simp [Op.equalIn, run_underlying hd], h⟩
  · subst ha; subst hb; exact ⟨_, fun w => by simp [Op.equalIn, run_underlying hd], h⟩
  · obtain ⟨b, off, us, rfl, _⟩ := ha; subst hb; exact ⟨_, fun w => by simp [Op.equalIn, run_underlying hd], h⟩
  · subst ha; subst hb; exact ⟨_, fun w => by simp [Op.equalIn, run_underlying hd], h⟩
  · obtain ⟨y, rfl, _⟩ := ha; subst hb; exact ⟨_, fun w => by simp [Op.equalIn, run_underlying hd], h⟩
  · subst ha; subst hb; exact ⟨_, fun w => by simp [Op.equalIn, run_underlying hd], h⟩
  · obtain ⟨f, c, rfl, _⟩ := ha; subst hb; exact ⟨_, fun w => by simp [Op.equalIn, run_underlying hd], h⟩
theorem eqGuard_none {op : BinOp} {t : TypeId} {x y : Operand} {u v : Value} (h : ∀ us, u ≠ .agg us) (h2 : u ≠ .nilIface) (w : World) : (eqGuard op t x y u v).run P w = .ok () w := by
  unfold eqGuard
  cases op <;> cases u <;> first | exact absurd rfl (h _) | exact absurd rfl h2 | simp
theorem eqW_shape {t : TypeId} {a b : AV} {u : Value} {K : Bool → Prop} (ha : RepV C a u) (h : eqW T t a b K) :
    (∀ us, u ≠ .agg us) ∧ u ≠ .nilIface ∧ (∀ v w, (binOp .eql t u v).run P w = ((Op.equal t u v).run P w).andThen fun r w => .ok (.bool r) w) ∧
      ∀ v w, (binOp .neq t u v).run P w = ((Op.equal t u v).run P w).andThen fun r w => .ok (.bool (!r)) w := by
  unfold eqW at h
  split at h
  all_goals first | exact h.elim | skip
  all_goals simp only [RepV, RepF] at ha
  all_goals first
    | (obtain ⟨b, off, us, rfl, _⟩ := ha)
    | (obtain ⟨y, rfl, _⟩ := ha)
    | (obtain ⟨f, c, rfl, _⟩ := ha)
    | subst ha
  all_goals
    refine ⟨by simp, by simp, fun v w => ?_, fun v w => ?_⟩ <;> cases v <;> simp [binOp]
theorem binW_ok {op : BinOp} {t : TypeId} {x y : Operand} {a b : AV} {u v : Value} {K : AV → Prop} (hT : TOk P T) (ha : RepV C a u) (hb : RepV C b v) (h : binW T op t a b K) :
    ∃ av r, (∀ w, (do eqGuard op t x y u v; binOp op t u v : Sem Value).run P w = .ok r w) ∧ RepV C av r ∧ K av := by
  have fin : ∀ {av : AV} {r : Value}, (∀ us, u ≠ .agg us) → u ≠ .nilIface → (∀ w, (binOp op t u v).run P w = .ok r w) → RepV C av r → K av →
      ∃ av r, (∀ w, (do eqGuard op t x y u v; binOp op t u v : Sem Value).run P w = .ok r w) ∧ RepV C av r ∧ K av :=
    fun {av r} h1 h2 h3 h4 h5 => ⟨av, r, fun w => by rw [Sem.run_bind, eqGuard_none h1 h2, Result.andThen_ok, h3], h4, h5⟩
  unfold binW at h
  split at h
  · rename_i k a k' b
    simp only [RepV, RepF] at ha hb
    subst ha; subst hb
    split at h
    · obtain ⟨h0, r, rfl, h⟩ := h
      exact fin (by simp) (by simp) (fun w => by simp [binOp, Op.shift, show ¬ b < 0 by omega]; rfl) (by simp only [RepV, RepF]) h
    · obtain ⟨h0, r, rfl, h⟩ := h
      exact fin (by simp) (by simp) (fun w => by simp [binOp, Op.shift, show ¬ b < 0 by omega]; rfl) (by simp only [RepV, RepF]) h
    · rename_i hs hs'
      obtain ⟨rfl, h⟩ := h
      obtain ⟨av, r, h1, h2, h3⟩ := binIntW_ok (P := P) (C := C) (t := t) h (fun e => hs e) (fun e => hs' e)
      exact fin (by simp) (by simp) h1 h2 h3
  · simp only [RepV, RepF] at ha hb
    subst ha; subst hb
    obtain ⟨av, r, h1, h2, h3⟩ := binStrW_ok (P := P) (C := C) (t := t) h
    exact fin (by simp) (by simp) h1 h2 h3
  · rename_i hn1 hn2
    split at h
    · obtain ⟨h1, h2, h3, _⟩ := eqW_shape (P := P) ha h
      obtain ⟨r, h4, h5⟩ := eqW_ok (P := P) hT ha hb h
      exact fin h1 h2 (fun w => by rw [h3, h4]; rfl) (by simp only [RepV, RepF]) h5
    · obtain ⟨h1, h2, _, h3⟩ := eqW_shape (P := P) ha h
      obtain ⟨r, h4, h5⟩ := eqW_ok (P := P) hT ha hb h
      exact fin h1 h2 (fun w => by rw [h3, h4]; rfl) (by simp only [RepV, RepF]) h5
    · exact h.elim
def unW (op : UnOp) (a : AV) (K : AV → Prop) : Prop :=
  match op, a with
  | .not, .bool b => K (.bool (!b))
  | .neg, .int k n => ∃ r, k.wrap (0 - n) = r ∧ K (.int k r)
  | _, _ => False
theorem unW_ok {op : UnOp} {a : AV} {u : Value} {K : AV → Prop} (ha : RepV C a u) (h : unW op a K) : ∃ av r, (∀ w, (Op.unary op u).run P w = .ok r w) ∧ RepV C av r ∧ K av := by
  unfold unW at h
  split at h
  · simp only [RepV, RepF] at ha
    subst ha
    exact ⟨_, _, fun w => by simp [Op.unary]; rfl, by simp only [RepV, RepF], h⟩
  · simp only [RepV, RepF] at ha
    subst ha
    obtain ⟨r, rfl, h⟩ := h
    exact ⟨_, _, fun w => by simp only [Op.unary, Op.intArith, Sem.run_pure]; rfl, by simp only [RepV, RepF], h⟩
  · exact h.elim
def convW (T : TT) (src dst : TypeId) (a : AV) (K : AV → Prop) : Prop :=
  tyK T src fun ts => tyK T dst fun td => match ts.d, td.d, a with
    | .int _, .int k, .int _ n => ∃ r, k.wrap n = r ∧ K (.int k r)
    | .str, .str, .str s => K (.str s)
    | .int _, .str, .int _ n => K (.str (Utf8.encode n).data.toList)
    | _, _, _ => False
theorem convW_ok {src dst : TypeId} {a : AV} {u : Value} {K : AV → Prop} (hT : TOk P T) (ha : RepV C a u) (h : convW T src dst a K) :
    ∃ av r, (∀ w, (convert src dst u).run P w = .ok r w) ∧ RepV C av r ∧ K av := by
  obtain ⟨ts, hts, h1⟩ := tyK_ok hT h
  obtain ⟨td, htd, h2⟩ := tyK_ok hT h1
  clear h h1
  split at h2
  · rename_i k0 k k1 n hs hd
    simp only [RepV, RepF] at ha
    subst ha
    obtain ⟨r, rfl, h⟩ := h2
    have e1 := und_int hts hs
    have e2 := und_int htd hd
    exact ⟨_, .int k (k.wrap n), fun w => by rw [convert, Sem.run_bind, run_underlying e1, Result.andThen_ok, Sem.run_bind, run_underlying e2, Result.andThen_ok]; rfl, by simp only [RepV, RepF], h⟩
  · rename_i s hs hd
    simp only [RepV, RepF] at ha
    subst ha
    have e1 := und_str hts hs
    have e2 := und_str htd hd
    exact ⟨_, .string ⟨⟨s⟩⟩, fun w => by rw [convert, Sem.run_bind, run_underlying e1, Result.andThen_ok, Sem.run_bind, run_underlying e2, Result.andThen_ok]; rfl, by simp only [RepV, RepF], h2⟩
  · rename_i k0 k1 n hs hd
    simp only [RepV, RepF] at ha
    subst ha
    have e1 := und_int hts hs
    have e2 := und_str htd hd
    exact ⟨_, .string (Utf8.encode n), fun w => by rw [convert, Sem.run_bind, run_underlying e1, Result.andThen_ok, Sem.run_bind, run_underlying e2, Result.andThen_ok]; rfl, by simp only [RepV, RepF], h2⟩
  · exact h2.elim
def lenW (T : TT) (t : TypeId) (s : AHeap) (a : AV) (K : AV → Prop) : Prop :=
  tyK T t fun ti => match ti.d, a with
    | .str, .str x => ∃ r : Int, (x.length : Int) = r ∧ K (.int .i64 r)
    | .slice _, .nils => K (.int .i64 0)
    | .slice _, .fsl es => ∃ r : Int, (es.length : Int) = r ∧ K (.int .i64 r)
    | .slice _, .sl i ver => objK s i fun o => o.ver = ver ∧ ∃ r : Int, (o.es.length : Int) = r ∧ K (.int .i64 r)
    | .array n _, _ => K (.int .i64 n)
    | _, _ => False
theorem lenW_ok {t ty : TypeId} {a : AV} {u : Value} {K : AV → Prop} (hT : TOk P T) (hg : Good G C) (ha : RepV C a u) (h : lenW T t C.s a K) :
    ∃ av r, (∀ w, (Builtin.len_ #[t] ty #[u]).run P w = .ok r w) ∧ RepV C av r ∧ K av := by
  obtain ⟨ti, hti, h1⟩ := tyK_ok hT h
  clear h
  split at h1
  · rename_i x hd
    simp only [RepV, RepF] at ha
    subst ha
    obtain ⟨r, rfl, h⟩ := h1
    exact ⟨_, _, fun w => by simp [Builtin.len_, run_underlying (und_str hti hd), str_size]; rfl, by simp only [RepV, RepF, goInt], h⟩
  · rename_i e hd
    simp only [RepV, RepF] at ha
    subst ha
    exact ⟨_, _, fun w => by simp [Builtin.len_, run_underlying (und_slice hti hd)]; rfl, by simp [RepV, RepF, goInt], h1⟩
  · rename_i e es hd
    simp only [RepV, RepF] at ha
    obtain ⟨a, cap, _, rfl, _⟩ := ha
    obtain ⟨r, rfl, h⟩ := h1
    exact ⟨_, _, fun w => by simp [Builtin.len_, run_underlying (und_slice hti hd)]; rfl, by simp only [RepV, RepF, goInt], h⟩
  · rename_i e i ver hd
    obtain ⟨o, ho, hver, r, rfl, h⟩ := objK_ok h1
    simp only [RepV] at ha
    obtain ⟨hz, hv⟩ := ha.2.2 o ho hver
    obtain ⟨_, _, _, xs, hown, _⟩ := hg.obj i o ho
    have hown := hown.row hz
    refine ⟨_, goInt o.es.length, fun w => ?_, by simp only [RepV, RepF, goInt], h⟩
    rcases hown.2 with ⟨h1, h2⟩ | ⟨g, cap, cur, h1, _⟩
    · rw [hv, h1, h2]; simp [Builtin.len_, run_underlying (und_slice hti hd)]
    · rw [hv, h1]; simp [Builtin.len_, run_underlying (und_slice hti hd)]
  · rename_i n e hd
    exact ⟨_, goInt n, fun w => by simp [Builtin.len_, run_underlying (und_array hti hd)], by simp only [RepV, RepF, goInt], h1⟩
  · exact h1.elim
def bndK (x : Option AV) (d : Int) (K : Int → Prop) : Prop :=
  match x with
  | none => K d
  | some (.int _ n) => K n
  | _ => False
def sliceW (T : TT) (t : TypeId) (a : AV) (lo hi : Option AV) (K : AV → Prop) : Prop :=
  tyK T t fun ti => match ti.d, a with
    | .str, .str s => bndK lo 0 fun l => match hi with
      | none => (0 ≤ l ∧ l ≤ s.length) ∧ K (.str (s.drop l.toNat))
      | some h => bndK (some h) 0 fun h => (0 ≤ l ∧ l ≤ h ∧ h ≤ s.length) ∧ K (.str ((s.take h.toNat).drop l.toNat))
    | .slice e, .fsl es => tyK T e fun te => bndK lo 0 fun l => (∀ y ∈ es, y.length = te.size) ∧ match hi with
      | none => (0 ≤ l ∧ l ≤ es.length) ∧ K (.fsl (es.drop l.toNat))
      | some h => bndK (some h) 0 fun h => (0 ≤ l ∧ l ≤ h ∧ h ≤ es.length) ∧ K (.fsl ((es.take h.toNat).drop l.toNat))
    | .array n e, .fptr cs => tyK T e fun te => bndK lo 0 fun l => (te.size = 1 ∧ n ≤ cs.length) ∧ match hi with
      | none => (0 ≤ l ∧ l ≤ n) ∧ K (.fsl (((cs.take n).drop l.toNat).map fun c => [c]))
      | some h => bndK (some h) 0 fun h => (0 ≤ l ∧ l ≤ h ∧ h ≤ n) ∧ K (.fsl (((cs.take h.toNat).drop l.toNat).map fun c => [c]))
    | _, _ => False
end
end Go.Abs
/- Pieces, indexes, literals. -/
namespace Go.Abs
open Go
section
variable {P : Program} {G : Globs} {T : TT} {C : Ctx}
def RepO (C : Ctx) : Option AV → Option Value → Prop
  | none, none => True
  | some a, some v => RepV C a v
  | _, _ => False
theorem bndK_ok {x : Option AV} {v : Option Value} {d : Int} {K : Int → Prop} (h : RepO C x v) (hk : bndK x d K) : ∃ n, ((v = none ∧ n = d) ∨ ∃ k, v = some (.int k n)) ∧ K n := by
  unfold bndK at hk
  split at hk
  · cases v with
    | none => exact ⟨d, .inl ⟨rfl, rfl⟩, hk⟩
    | some v => exact h.elim
  · rename_i k n
    cases v with
    | none => exact h.elim
    | some v => simp only [RepO, RepV, RepF] at h; exact ⟨n, .inr ⟨k, by rw [h]⟩, hk⟩
  · exact hk.elim
theorem run_sliceBound {k : IntKind} {n : Int} {y : Nat} {c : BoundsCode} (h0 : 0 ≤ n) (h1 : n ≤ y) (w : World) : (Instr.sliceBound (.int k n) y c).run P w = .ok n.toNat w := by
  simp [Instr.sliceBound, asIntOf, h0, h1]
theorem ba_extract (s : List UInt8) (l h : Nat) : (⟨⟨s⟩⟩ : ByteArray).extract l h = ⟨⟨(s.take h).drop l⟩⟩ := by
  apply ByteArray.ext
  rw [ByteArray.data_extract]
  apply Array.ext'
  simp [List.extract_eq_take_drop, List.drop_take]
theorem run_bounds {isS : Bool} {len cap : Nat} {vlo vhi : Option Value} {l h : Int} (hl : (vlo = none ∧ l = 0) ∨ ∃ k, vlo = some (.int k l)) (hh : (vhi = none ∧ h = len) ∨ ∃ k, vhi = some (.int k h))
    (h0 : 0 ≤ l) (h1 : l ≤ h) (h2 : h ≤ cap) (w : World) : (Instr.sliceBounds isS len cap vlo vhi none).run P w = .ok (l.toNat, h.toNat, cap) w := by
  have k1 : ∀ k c, (Instr.sliceBound (.int k h) cap c).run P w = .ok h.toNat w := fun k c => run_sliceBound (by omega) h2 w
  have k2 : ∀ k c, (Instr.sliceBound (.int k l) h.toNat c).run P w = .ok l.toNat w := fun k c => run_sliceBound h0 (by omega) w
  rcases hl with ⟨rfl, rfl⟩ | ⟨k, rfl⟩ <;> rcases hh with ⟨rfl, rfl⟩ | ⟨k', rfl⟩
  · simp [Instr.sliceBounds]
  · simp [Instr.sliceBounds, k1]
  · have := k2 k .sliceB
    rw [Int.toNat_natCast] at this
    simp [Instr.sliceBounds, this]
  · simp [Instr.sliceBounds, k1, k2]
theorem RepFLL_ones {C : Ctx} : ∀ {cs : List AV} {us : List Value}, RepFL C cs us → RepFLL C (cs.map fun c => [c]) us
  | [], us, h => by simpa [RepFL, RepFLL] using h
  | c :: cs, us, h => by
    simp only [RepFL] at h
    obtain ⟨u, r, rfl, h1, h2⟩ := h
    simp only [List.map_cons, RepFLL]
    exact ⟨[u], r, rfl, by simp only [RepFL]; exact ⟨u, [], rfl, h1, rfl⟩, RepFLL_ones h2⟩
theorem sliceW_ok {t : TypeId} {a : AV} {u : Value} {lo hi : Option AV} {vlo vhi : Option Value} {K : AV → Prop} (hT : TOk P T) (ha : RepV C a u) (hlo : RepO C lo vlo) (hhi : RepO C hi vhi) (h : sliceW T t a lo hi K) :
    ∃ av r, (∀ w, (Instr.sliceAt t u vlo vhi none).run P w = .ok r w) ∧ RepV C av r ∧ K av := by
  obtain ⟨ti, hti, h1⟩ := tyK_ok hT h
  clear h
  split at h1
  · rename_i s hd
    simp only [RepV, RepF] at ha
    subst ha
    have hu := und_str hti hd
    obtain ⟨l, hl, h2⟩ := bndK_ok hlo h1
    have fin : ∀ h : Int, ((vhi = none ∧ h = s.length) ∨ ∃ k, vhi = some (.int k h)) → 0 ≤ l → l ≤ h → h ≤ s.length → ∀ w, (Instr.sliceAt t (.string ⟨⟨s⟩⟩) vlo vhi none).run P w = .ok (.string ⟨⟨(s.take h.toNat).drop l.toNat⟩⟩) w := fun h hh h0 h1 h2 w => by
      have := run_bounds (P := P) (isS := false) (len := s.length) (cap := s.length) hl hh h0 h1 h2 w
      simp only [Instr.sliceAt, Sem.run_bind, run_underlying hu, Result.andThen_ok, Instr.slice, Option.isSome_none, Bool.false_eq_true, if_false, Sem.run_pure, str_size, this, ba_extract]
    cases hi with
    | none =>
      cases vhi with
      | some v => exact hhi.elim
      | none =>
        obtain ⟨⟨h0, hn⟩, h⟩ := h2
        exact ⟨_, _, fin s.length (.inl ⟨rfl, rfl⟩) h0 hn (Int.le_refl _), by simp [RepV, RepF], h⟩
    | some hv =>
      cases vhi with
      | none => exact hhi.elim
      | some v =>
        obtain ⟨hh, hh1, ⟨h0, hlh, hn⟩, h⟩ := bndK_ok hhi h2
        refine ⟨_, _, fin hh ?_ h0 hlh hn, by simp [RepV, RepF], h⟩
        rcases hh1 with ⟨h, _⟩ | h
        · cases h
        · exact .inr h
  · rename_i e es hd
    have hu := und_slice hti hd
    obtain ⟨te, hte, h2⟩ := tyK_ok hT h1
    obtain ⟨l, hl, hsz, h3⟩ := bndK_ok hlo h2
    simp only [RepV, RepF] at ha
    obtain ⟨base, cap, hle, rfl, ha⟩ := ha
    have hsize : ∀ w, (sizeOf e).run P w = .ok te.size w := fun w => run_sizeOf' w hte
    have rep : ∀ (h : Nat), l.toNat ≤ h → h ≤ es.length → RepV C (.fsl ((es.take h).drop l.toNat)) (.slice (if cap = l.toNat then base else base.map (·.add (l.toNat * te.size))) (h - l.toNat) (cap - l.toNat)) := by
      intro h h1 h2
      simp only [RepV, RepF]
      refine ⟨_, _, ?_, by rw [show ((es.take h).drop l.toNat).length = h - l.toNat by simp; omega], ?_⟩
      · simp; omega
      by_cases hhl : h = l.toNat
      · left
        refine ⟨by rw [hhl]; simp, fun hnone => ?_⟩
        by_cases hc : cap = l.toNat
        · omega
        · rw [if_neg hc] at hnone
          rcases ha with ⟨rfl, hz⟩ | ⟨b, off, us, rfl, _⟩
          · cases base with
            | none => rw [hz rfl]; omega
            | some p => simp at hnone
          · simp at hnone
      · rcases ha with ⟨rfl, hz⟩ | ⟨b, off, us, rfl, hb, hrd, hrep⟩
        · simp at h2; omega
        · right
          rw [if_neg (by omega)]
          refine ⟨b, off + l.toNat * te.size, (us.take (h * te.size)).drop (l.toNat * te.size), by simp [Addr.add_lit], hb, fun j u hu => ?_, RepFLL.drop (RepFLL.take hrep hsz h) (fun x hx => hsz x (List.mem_of_mem_take hx)) _⟩
          rw [List.getElem?_drop, List.getElem?_take] at hu
          split at hu
          · rw [Nat.add_assoc]; exact hrd _ u hu
          · cases hu
    have fin : ∀ h : Int, ((vhi = none ∧ h = es.length) ∨ ∃ k, vhi = some (.int k h)) → 0 ≤ l → l ≤ h → h ≤ es.length → ∀ w, (Instr.sliceAt t (.slice base es.length cap) vlo vhi none).run P w = .ok (.slice (if cap = l.toNat then base else base.map (·.add (l.toNat * te.size))) (h.toNat - l.toNat) (cap - l.toNat)) w := fun h hh h0 h1 h2 w => by
      have := run_bounds (P := P) (isS := true) (len := es.length) (cap := cap) hl hh h0 h1 (by omega) w
      simp only [Instr.sliceAt, Sem.run_bind, run_underlying hu, Result.andThen_ok, Instr.slice, Sem.run_pure, this, hsize]
    cases hi with
    | none =>
      cases vhi with
      | some v => exact hhi.elim
      | none =>
        obtain ⟨⟨h0, hn⟩, h⟩ := h3
        have h4 := rep es.length (by omega) (Nat.le_refl _)
        rw [List.take_length] at h4
        exact ⟨_, _, fin es.length (.inl ⟨rfl, rfl⟩) h0 hn (Int.le_refl _), by simpa using h4, h⟩
    | some hv =>
      cases vhi with
      | none => exact hhi.elim
      | some v =>
        obtain ⟨hh, hh1, ⟨h0, hlh, hn⟩, h⟩ := bndK_ok hhi h3
        refine ⟨_, _, fin hh ?_ h0 hlh hn, rep hh.toNat (by omega) (by omega), h⟩
        rcases hh1 with ⟨h, _⟩ | h
        · cases h
        · exact .inr h
  · rename_i n e cs hd
    have hu := und_array hti hd
    obtain ⟨te, hte, h2⟩ := tyK_ok hT h1
    obtain ⟨l, hl, ⟨hsz, hn⟩, h3⟩ := bndK_ok hlo h2
    simp only [RepV, RepF] at ha
    obtain ⟨b, off, us, rfl, hb, hrd, hrep⟩ := ha
    have hsize : ∀ w, (sizeOf e).run P w = .ok 1 w := fun w => by rw [← hsz]; exact run_sizeOf' w hte
    have rep : ∀ (h : Nat), l.toNat ≤ h → h ≤ n → RepV C (.fsl (((cs.take h).drop l.toNat).map fun c => [c])) (.slice (some (if n = l.toNat then ⟨b, off, none⟩ else (⟨b, off, none⟩ : Addr).add (l.toNat * 1))) (h - l.toNat) (n - l.toNat)) := by
      intro h h1 h2
      simp only [RepV, RepF]
      have hlen : (((cs.take h).drop l.toNat).map fun c => [c]).length = h - l.toNat := by simp; omega
      refine ⟨some (if n = l.toNat then ⟨b, off, none⟩ else (⟨b, off, none⟩ : Addr).add (l.toNat * 1)), n - l.toNat, by rw [hlen]; omega, by rw [hlen], ?_⟩
      by_cases hhl : h = l.toNat
      · left
        exact ⟨List.eq_nil_of_length_eq_zero (by rw [hlen]; omega), fun hnone => by cases hnone⟩
      · right
        rw [if_neg (by omega)]
        refine ⟨b, off + l.toNat, (us.take h).drop l.toNat, by simp [Addr.add_lit], hb, fun j u hu => ?_, RepFLL_ones (RepFL.drop (RepFL.take hrep h) _)⟩
        rw [List.getElem?_drop, List.getElem?_take] at hu
        split at hu
        · rw [Nat.add_assoc]; exact hrd _ u hu
        · cases hu
    have fin : ∀ h : Int, ((vhi = none ∧ h = n) ∨ ∃ k, vhi = some (.int k h)) → 0 ≤ l → l ≤ h → h ≤ n → ∀ w, (Instr.sliceAt t (.pointer (some ⟨b, off, none⟩)) vlo vhi none).run P w = .ok (.slice (some (if n = l.toNat then ⟨b, off, none⟩ else (⟨b, off, none⟩ : Addr).add (l.toNat * 1))) (h.toNat - l.toNat) (n - l.toNat)) w := fun h hh h0 h1 h2 w => by
      have := run_bounds (P := P) (isS := false) (len := n) (cap := n) hl hh h0 h1 h2 w
      simp only [Instr.sliceAt, Sem.run_bind, run_underlying hu, Result.andThen_ok, Instr.sureAddr, Sem.run_pure, this, hsize]
    cases hi with
    | none =>
      cases vhi with
      | some v => exact hhi.elim
      | none =>
        obtain ⟨⟨h0, hn2⟩, h⟩ := h3
        exact ⟨_, _, fin n (.inl ⟨rfl, rfl⟩) h0 hn2 (Int.le_refl _), by simpa using rep n (by omega) (Nat.le_refl _), h⟩
    | some hv =>
      cases vhi with
      | none => exact hhi.elim
      | some v =>
        obtain ⟨hh, hh1, ⟨h0, hlh, hn2⟩, h⟩ := bndK_ok hhi h3
        refine ⟨_, _, fin hh ?_ h0 hlh hn2, rep hh.toNat (by omega) (by omega), h⟩
        rcases hh1 with ⟨h, _⟩ | h
        · cases h
        · exact .inr h
  · exact h1.elim
def indexW (T : TT) (t : TypeId) (a i : AV) (K : AV → Prop) : Prop :=
  tyK T t fun ti => match ti.d, a, i with
    | .str, .str s, .int _ i => 0 ≤ i ∧ ∃ b, s[i.toNat]? = some b ∧ K (.int .u8 (b.toNat : Int))
    | .array n e, .agg cs, .int _ i => (0 ≤ i ∧ i < n) ∧ tyK T e fun te => dropK cs (i.toNat * te.size) fun cs => cellsK T e cs K
    | _, _, _ => False
theorem indexW_ok {t : TypeId} {a i : AV} {u v : Value} {K : AV → Prop} (hT : TOk P T) (ha : RepV C a u) (hi : RepV C i v) (h : indexW T t a i K) :
    ∃ av r, (∀ w, (Instr.index t u v).run P w = .ok r w) ∧ RepV C av r ∧ K av := by
  obtain ⟨ti, hti, h1⟩ := tyK_ok hT h
  clear h
  split at h1
  · rename_i s k i hd
    simp only [RepV, RepF] at ha hi
    subst ha; subst hi
    obtain ⟨h0, b, hb, h⟩ := h1
    refine ⟨_, .int .u8 b.toNat, fun w => ?_, by simp only [RepV, RepF], h⟩
    have hb2 : (⟨⟨s⟩⟩ : ByteArray)[i.toNat]? = some b := by
      obtain ⟨hlt, rfl⟩ := List.getElem?_eq_some_iff.1 hb
      rw [getElem?_pos _ _ (by simpa [str_size] using hlt)]
      rfl
    simp [Instr.index, asIntOf, run_underlying (und_str hti hd), h0, hb2]
  · rename_i n e cs k i hd
    simp only [RepV, RepF] at ha hi
    subst hi
    obtain ⟨us, rfl, hl⟩ := ha
    obtain ⟨⟨h0, hn⟩, h⟩ := h1
    obtain ⟨te, hte, h⟩ := tyK_ok hT h
    obtain ⟨hle, h⟩ := dropK_ok h
    obtain ⟨tf, htf, h⟩ := tyK_ok hT h
    have hsz : te.size = tf.size := by
      obtain ⟨x, hx, hxs, _⟩ := hte.info
      obtain ⟨y, hy, hys, _⟩ := htf.info
      rw [hx] at hy
      have := Option.some.inj hy
      subst this
      exact hxs.symm.trans hys
    have hd2 := RepL.drop hl (i.toNat * te.size)
    split at h
    · rename_i hag
      obtain ⟨hle2, h⟩ := takeK_ok h
      refine ⟨_, .agg (us.extract (i.toNat * te.size) (i.toNat * te.size + tf.size)), fun w => ?_, ?_, h⟩
      · simp [Instr.index, asIntOf, run_underlying (und_array hti hd), h0, hn, run_sizeOf' (P := P) w hte, part, run_isAgg' (P := P) w htf, hag, run_sizeOf' (P := P) w htf, hsz]
      · simp only [RepV]
        refine ⟨_, rfl, ?_⟩
        have := RepL.take hd2 tf.size
        have e2 : (us.extract (i.toNat * te.size) (i.toNat * te.size + tf.size)).toList = (us.toList.drop (i.toNat * te.size)).take tf.size := by
          rw [Array.toList_extract, List.extract_eq_take_drop]; congr 1; omega
        rw [e2]; exact this
    · rename_i hag
      cases hcs : cs.drop (i.toNat * te.size) with
      | nil => rw [hcs] at h; exact h.elim
      | cons c r =>
        rw [hcs] at h hd2
        simp only [RepL] at hd2
        obtain ⟨x, r', he, h1, _⟩ := hd2
        refine ⟨c, x, fun w => ?_, h1, h⟩
        have hx : us[i.toNat * te.size]? = some x := by
          have := congrArg (·[0]?) he
          simpa using this
        simp [Instr.index, asIntOf, run_underlying (und_array hti hd), h0, hn, run_sizeOf' (P := P) w hte, part, run_isAgg' (P := P) w htf, hag, hx]
  · exact h1.elim
def idxAddrW (T : TT) (t : TypeId) (s : AHeap) (a i : AV) (K : AV → Prop) : Prop :=
  tyK T t fun ti => match ti.d, a, i with
    | .slice e, .sl j ver, .int _ i => tyK T e fun te => objK s j fun o => o.ver = ver ∧ o.sz = te.size ∧ (0 ≤ i ∧ i < o.es.length) ∧ K (.ptr j ver i.toNat 0)
    | .slice e, .fsl es, .int _ i => tyK T e fun te => (∀ y ∈ es, y.length = te.size) ∧ 0 ≤ i ∧ ∃ c, es[i.toNat]? = some c ∧ K (.fptr c)
    | .array n e, .ptr j ver k off, .int _ i => tyK T e fun te => objK s j fun o => o.ver = ver ∧ (0 ≤ i ∧ i < n) ∧ K (.ptr j ver k (off + i.toNat * te.size))
    | .array n e, .fptr cs, .int _ i => tyK T e fun te => (0 ≤ i ∧ i < n) ∧ dropK cs (i.toNat * te.size) fun cs => K (.fptr cs)
    | _, _, _ => False
theorem idxAddrW_ok {t : TypeId} {a i : AV} {u v : Value} {K : AV → Prop} (hT : TOk P T) (hg : Good G C) (ha : RepV C a u) (hi : RepV C i v) (h : idxAddrW T t C.s a i K) :
    ∃ av r, (∀ w, (Instr.indexAt t u v).run P w = .ok r w) ∧ RepV C av r ∧ K av := by
  obtain ⟨ti, hti, h1⟩ := tyK_ok hT h
  clear h
  split at h1
  · rename_i e j ver k i hd
    obtain ⟨te, hte, h1⟩ := tyK_ok hT h1
    obtain ⟨o, ho, hver, hsz, ⟨h0, hn⟩, h⟩ := objK_ok h1
    simp only [RepV, RepF] at ha hi
    subst hi
    obtain ⟨hz, hv⟩ := ha.2.2 o ho hver
    obtain ⟨hov, _, _, xs, hown, _⟩ := hg.obj j o ho
    have hown := hown.row hz
    rcases hown.2 with ⟨_, h2⟩ | ⟨g, cap, cur, h1, _⟩
    · omega
    · refine ⟨_, .pointer (some ⟨g, i.toNat * te.size, none⟩), fun w => ?_, ?_, h⟩
      · rw [hv, h1]
        simp [Instr.indexAt, asIntOf, run_underlying (und_slice hti hd), h0, hn, run_sizeOf' (P := P) w hte, Addr.add_lit]
      · simp only [RepV]
        refine ⟨⟨_, rfl⟩, by omega, fun o' ho' hv' => ?_⟩
        have : o' = o := by have := ho'.symm.trans ho; simpa using this
        subst this
        exact ⟨hz, g, by rw [h1]; rfl, by simp [hsz]⟩
  · rename_i e es k i hd
    obtain ⟨te, hte, hsz, h0, c, hc, h⟩ := tyK_ok hT h1
    simp only [RepV, RepF] at ha hi
    subst hi
    obtain ⟨base, cap, hle, rfl, ha⟩ := ha
    have hlt : i.toNat < es.length := (List.getElem?_eq_some_iff.1 hc).1
    rcases ha with ⟨rfl, _⟩ | ⟨b, off, us, rfl, hb, hrd, hrep⟩
    · simp at hlt
    · refine ⟨_, .pointer (some ⟨b, off + i.toNat * te.size, none⟩), fun w => ?_, ?_, h⟩
      · have hn : i < es.length := by omega
        simp [Instr.indexAt, asIntOf, run_underlying (und_slice hti hd), h0, hn, run_sizeOf' (P := P) w hte, Addr.add_lit]
      · simp only [RepV, RepF]
        refine ⟨b, _, _, rfl, hb, fun j u hu => ?_, RepFLL.get hrep hsz hc⟩
        rw [List.getElem?_take] at hu
        split at hu
        · rw [List.getElem?_drop] at hu; rw [Nat.add_assoc]; exact hrd _ u hu
        · cases hu
  · rename_i n e j ver k off kk i hd
    obtain ⟨te, hte, h1⟩ := tyK_ok hT h1
    obtain ⟨o, ho, hver, ⟨h0, hn⟩, h⟩ := objK_ok h1
    obtain ⟨hz, g, hgb, rfl⟩ := ptr_live ho hver ha
    simp only [RepV, RepF] at hi
    subst hi
    refine ⟨_, .pointer (some ⟨g, k * o.sz + off + i.toNat * te.size, none⟩), fun w => ?_, ?_, h⟩
    · simp [Instr.indexAt, asIntOf, run_underlying (und_array hti hd), Instr.sureAddr, h0, hn, run_sizeOf' (P := P) w hte, Addr.add_lit]
    · simp only [RepV]
      refine ⟨⟨_, rfl⟩, by rw [← hver]; exact (hg.obj j o ho).1, fun o' ho' hv' => ?_⟩
      have : o' = o := by have := ho'.symm.trans ho; simpa using this
      subst this
      exact ⟨hz, g, hgb, by simp [Nat.add_assoc]⟩
  · rename_i n e cs k i hd
    obtain ⟨te, hte, ⟨h0, hn⟩, h⟩ := tyK_ok hT h1
    obtain ⟨hle, h⟩ := dropK_ok h
    simp only [RepV, RepF] at ha hi
    subst hi
    obtain ⟨b, off, us, rfl, hb, hrd, hl⟩ := ha
    refine ⟨_, .pointer (some ⟨b, off + i.toNat * te.size, none⟩), fun w => ?_, ?_, h⟩
    · simp [Instr.indexAt, asIntOf, run_underlying (und_array hti hd), Instr.sureAddr, h0, hn, run_sizeOf' (P := P) w hte, Addr.add_lit]
    · simp only [RepV, RepF]
      exact ⟨b, _, us.drop (i.toNat * te.size), rfl, hb, fun j u hu' => by rw [List.getElem?_drop] at hu'; rw [Nat.add_assoc]; exact hrd _ u hu', RepFL.drop hl _⟩
  · exact h1.elim
def nthK : List AV → Nat → (AV → Prop) → Prop
  | [], _, _ => False
  | a :: _, 0, k => k a
  | _ :: as, n + 1, k => nthK as n k
theorem nthK_ok : ∀ {as : List AV} {n : Nat} {k : AV → Prop}, nthK as n k → ∃ a, as[n]? = some a ∧ k a
  | [], n, k, h => by cases n <;> exact h.elim
  | a :: as, 0, k, h => ⟨a, rfl, h⟩
  | a :: as, n + 1, k, h => by obtain ⟨x, h1, h2⟩ := nthK_ok (as := as) (n := n) h; exact ⟨x, by simpa using h1, h2⟩
def extractW (a : AV) (n : Nat) (K : AV → Prop) : Prop := match a with | .tuple vs => nthK vs n K | _ => False
theorem extractW_ok {a : AV} {u : Value} {n : Nat} {K : AV → Prop} (ha : RepV C a u) (h : extractW a n K) : ∃ av r, (∀ w, (Instr.extract u n).run P w = .ok r w) ∧ RepV C av r ∧ K av := by
  unfold extractW at h
  split at h
  · simp only [RepV] at ha
    obtain ⟨us, rfl, hl⟩ := ha
    obtain ⟨x, hx, h⟩ := nthK_ok h
    obtain ⟨r, hr, hxr⟩ := RepL.get hl hx
    have hr2 : us[n]? = some r := by simpa using hr
    exact ⟨x, r, fun w => by simp [Instr.extract, hr2], hxr, h⟩
  · exact h.elim
def mkIfaceW (T : TT) (t : TypeId) (a : AV) (K : AV → Prop) : Prop := tyK T t fun ti => match ti.d with | .iface => False | _ => K (.iface t a)
theorem mkIfaceW_ok {t : TypeId} {a : AV} {u : Value} {K : AV → Prop} (hT : TOk P T) (ha : RepV C a u) (h : mkIfaceW T t a K) : ∃ av r, (∀ w, (Instr.makeInterface t u).run P w = .ok r w) ∧ RepV C av r ∧ K av := by
  obtain ⟨ti, hti, h1⟩ := tyK_ok hT h
  obtain ⟨d, hd, hk⟩ := hti.und
  split at h1
  · exact h1.elim
  · rename_i hne
    refine ⟨_, .iface t u, fun w => ?_, by simp only [RepV]; exact ⟨u, rfl, ha⟩, h1⟩
    cases d <;> first | (simp [Instr.makeInterface, run_underlying hd]; done) | (exact absurd hk.symm hne)
end
end Go.Abs
/- Equal: structs, pointers. -/
namespace Go.Abs
open Go
section
variable {P : Program} {G : Globs} {T : TT} {C : Ctx}
def eqV (T : TT) (rec : TypeId → List AV → List AV → (Bool → Prop) → Prop) (t : TypeId) (a b : AV) (K : Bool → Prop) : Prop :=
  match a, b with
  | .int k x, .int k' y => k = k' ∧ tyK T t fun ti => match ti.d with | .int _ => K (x == y) | _ => False
  | .str x, .str y => tyK T t fun ti => match ti.d with | .str => K (x == y) | _ => False
  | .bool x, .bool y => tyK T t fun ti => match ti.d with | .bool => K (x == y) | _ => False
  | .agg cs, .agg ds => rec t cs ds K
  | _, _ => False
def eqFs (T : TT) (rec : TypeId → List AV → List AV → (Bool → Prop) → Prop) : List (Nat × TypeId) → List AV → List AV → (Bool → Prop) → Prop
  | [], _, _, K => K true
  | (off, t) :: fs, cs, ds, K => dropK cs off fun cs' => cellsK T t cs' fun a => dropK ds off fun ds' => cellsK T t ds' fun b => eqV T rec t a b fun r => eqFs T rec fs cs ds fun r2 => K (r && r2)
def eqTy (T : TT) : Nat → TypeId → List AV → List AV → (Bool → Prop) → Prop
  | 0, _, _, _, _ => False
  | n + 1, t, cs, ds, K => tyK T t fun ti => match ti.d with
    | .struct fs => ti.cmp = true ∧ eqFs T (eqTy T n) fs cs ds K
    | _ => False
theorem part_of {t : TypeId} {cs : List AV} {us : Array Value} {off : Nat} {K : AV → Prop} (hT : TOk P T) (hl : RepL C cs us.toList) (h : cellsK T t (cs.drop off) K) :
    ∃ av r, (∀ w, (part t us off).run P w = .ok r w) ∧ RepV C av r ∧ K av := by
  obtain ⟨tf, htf, h⟩ := tyK_ok hT h
  have hd2 := RepL.drop hl off
  split at h
  · rename_i hag
    obtain ⟨hle2, h⟩ := takeK_ok h
    refine ⟨_, .agg (us.extract off (off + tf.size)), fun w => ?_, ?_, h⟩
    · simp [part, run_isAgg' (P := P) w htf, hag, run_sizeOf' (P := P) w htf]
    · simp only [RepV]
      refine ⟨_, rfl, ?_⟩
      have := RepL.take hd2 tf.size
      have e2 : (us.extract off (off + tf.size)).toList = (us.toList.drop off).take tf.size := by
        rw [Array.toList_extract, List.extract_eq_take_drop]; congr 1; omega
      rw [e2]; exact this
  · rename_i hag
    cases hcs : cs.drop off with
    | nil => rw [hcs] at h; exact h.elim
    | cons c r =>
      rw [hcs] at h hd2
      simp only [RepL] at hd2
      obtain ⟨x, r', he, h1, _⟩ := hd2
      refine ⟨c, x, fun w => ?_, h1, h⟩
      have hx : us[off]? = some x := by
        have := congrArg (·[0]?) he
        simpa using this
      simp [part, run_isAgg' (P := P) w htf, hag, hx]
theorem eqV_ok {rec : TypeId → List AV → List AV → (Bool → Prop) → Prop} {d : Nat} (hrec : ∀ t cs ds us vs (K : Bool → Prop), RepL C cs us.toList → RepL C ds vs.toList → rec t cs ds K → ∃ r, (∀ w, (Op.equalIn (d + 1) t (.agg us) (.agg vs)).run P w = .ok r w) ∧ K r)
    {t : TypeId} {a b : AV} {u v : Value} {K : Bool → Prop} (hT : TOk P T) (ha : RepV C a u) (hb : RepV C b v) (h : eqV T rec t a b K) : ∃ r, (∀ w, (Op.equalIn (d + 1) t u v).run P w = .ok r w) ∧ K r := by
  unfold eqV at h
  split at h
  · obtain ⟨rfl, h⟩ := h
    obtain ⟨ti, hti, h⟩ := tyK_ok hT h
    simp only [RepV, RepF] at ha hb
    subst ha; subst hb
    split at h
    · rename_i hd; exact ⟨_, fun w => run_equalIn_int w d t _ _ _ _ (und_int hti hd), h⟩
    · exact h.elim
  · obtain ⟨ti, hti, h⟩ := tyK_ok hT h
    simp only [RepV, RepF] at ha hb
    subst ha; subst hb
    split at h
    · rename_i hd; exact ⟨_, fun w => by rw [run_equalIn_string w d t _ _ (und_str hti hd), ba_toList, ba_toList], h⟩
    · exact h.elim
  · obtain ⟨ti, hti, h⟩ := tyK_ok hT h
    simp only [RepV, RepF] at ha hb
    subst ha; subst hb
    split at h
    · rename_i hd
      obtain ⟨dd, hd', hk⟩ := hti.und
      rw [hd] at hk
      cases dd <;> simp [TD.of] at hk
      exact ⟨_, fun w => run_equalIn_bool w d t _ _ hd', h⟩
    · exact h.elim
  · simp only [RepV] at ha hb
    obtain ⟨us, rfl, h1⟩ := ha
    obtain ⟨vs, rfl, h2⟩ := hb
    exact hrec _ _ _ _ _ _ h1 h2 h
  · exact h.elim
theorem eqFs_ok {rec : TypeId → List AV → List AV → (Bool → Prop) → Prop} {d : Nat} (hrec : ∀ t cs ds us vs (K : Bool → Prop), RepL C cs us.toList → RepL C ds vs.toList → rec t cs ds K → ∃ r, (∀ w, (Op.equalIn (d + 1) t (.agg us) (.agg vs)).run P w = .ok r w) ∧ K r)
    (hT : TOk P T) {cs ds : List AV} {us vs : Array Value} (h1 : RepL C cs us.toList) (h2 : RepL C ds vs.toList) : ∀ (gs : List Field) (K : Bool → Prop), (∀ g ∈ gs, g.name ≠ "_") → eqFs T rec (gs.map fun f => (f.offset, f.type)) cs ds K →
    ∃ r, (∀ w, (Op.eqFields (d + 1) us vs gs).run P w = .ok r w) ∧ K r
  | [], K, _, h => ⟨true, fun w => by simp [Op.eqFields], h⟩
  | g :: gs, K, hn, h => by
    simp only [List.map_cons, eqFs] at h
    obtain ⟨_, h⟩ := dropK_ok h
    obtain ⟨a, u, hu, ha, h⟩ := part_of (P := P) hT h1 h
    obtain ⟨_, h⟩ := dropK_ok h
    obtain ⟨b, v, hv, hb, h⟩ := part_of (P := P) hT h2 h
    obtain ⟨r, hr, h⟩ := eqV_ok (P := P) hrec hT ha hb h
    obtain ⟨r2, hr2, h⟩ := eqFs_ok hrec hT h1 h2 gs _ (fun g hg => hn g (by simp [hg])) h
    refine ⟨r && r2, fun w => ?_, h⟩
    have hne : g.name ≠ "_" := hn g (by simp)
    simp only [Op.eqFields, hne, ne_eq, not_false_eq_true, if_true, Sem.run_bind, hu, hv, hr, Result.andThen_ok]
    cases r
    · simp
    · simp [hr2]
theorem eqTy_ok (hT : TOk P T) : ∀ (n d : Nat), n ≤ d → ∀ t cs ds us vs (K : Bool → Prop), RepL C cs us.toList → RepL C ds vs.toList → eqTy T n t cs ds K → ∃ r, (∀ w, (Op.equalIn (d + 1) t (.agg us) (.agg vs)).run P w = .ok r w) ∧ K r
  | 0, _, _, _, _, _, _, _, _, _, _, h => h.elim
  | n + 1, d, hd, t, cs, ds, us, vs, K, h1, h2, h => by
    obtain ⟨ti, hti, h⟩ := tyK_ok hT (show tyK T t _ from h)
    split at h
    · rename_i fs hfs
      obtain ⟨hc, h⟩ := h
      obtain ⟨q1, q2, gs, q3, q4⟩ := hti.cmp_ok hc
      obtain ⟨gs', hu, hgs⟩ := und_struct hti hfs
      have : gs' = gs := by rw [hu] at q3; simpa using q3
      subst this
      obtain ⟨d', rfl⟩ : ∃ d', d = d' + 1 := ⟨d - 1, by omega⟩
      have hf : P.fieldsOf t = gs' := by simp [Program.fieldsOf, hu]
      rw [← hgs] at h
      obtain ⟨r, hr, hk⟩ := eqFs_ok (P := P) (eqTy_ok hT n d' (by omega)) hT h1 h2 gs'.toList K (fun g hg => by
        have := Array.all_eq_true_iff_forall_mem.1 q4 g (by simpa using hg)
        simpa using this) h
      refine ⟨r, fun w => ?_, hk⟩
      rw [run_equalIn_struct w (d' + 1) t us vs (by rw [hf]; exact hu) q1, hf]
      exact hr w
    · exact h.elim
def isK : Operand → Bool
  | .const _ => true
  | _ => false
def binSW (T : TT) (op : BinOp) (t : TypeId) (lit : Bool) (s : AHeap) (a b : AV) (K : AV → Prop) : Prop :=
  match a, b with
  | .nili, .nili => match lit with
    | true => tyK T t fun ti => match ti.d with
      | .iface => match op with
        | .eql => K (.bool true)
        | .neq => K (.bool false)
        | _ => False
      | _ => False
    | false => False
  | .agg cs, .agg ds => match op with
    | .eql => tyK T t (fun ti => ti.cmp = true) ∧ eqTy T 6 t cs ds fun r => CmpW r fun r => K (.bool r)
    | .neq => tyK T t (fun ti => ti.cmp = true) ∧ eqTy T 6 t cs ds fun r => CmpW (!r) fun r => K (.bool r)
    | _ => False
  | .ptr i v k off, .ptr j v' k' off' => tyK T t fun ti => match ti.d with
    | .ptr e => tyK T e fun te => match te.size with
      | 0 => False
      | _ + 1 => objK s i fun o => o.ver = v ∧ (i = j ∧ v = v' ∧ k = k' ∧ off = off') ∧ match op with
        | .eql => K (.bool true)
        | .neq => K (.bool false)
        | _ => False
    | _ => False
  | .ptr i v _ _, .nilp => tyK T t fun ti => match ti.d with
    | .ptr _ => objK s i fun o => o.ver = v ∧ match op with
        | .eql => K (.bool false)
        | .neq => K (.bool true)
        | _ => False
    | _ => False
  | a, b => binW T op t a b K
theorem und_ptr {t e : TypeId} {ti : TI} (h : TFits P t ti) (hd : ti.d = .ptr e) : P.underlying t = some (.pointer e) := by
  obtain ⟨d, hd', hk⟩ := h.und
  rw [hd] at hk
  cases d <;> simp [TD.of] at hk
  subst hk; exact hd'
theorem eqGuard_ptr {op : BinOp} {t : TypeId} {x y : Operand} {p : Option Addr} {v : Value} (w : World) : (eqGuard op t x y (.pointer p) v).run P w = .ok () w := eqGuard_none (by simp) (by simp) w
theorem binSW_ok {op : BinOp} {t : TypeId} {x y : Operand} {a b : AV} {u v : Value} {K : AV → Prop} (hT : TOk P T) (hg : Good G C) (ha : RepV C a u) (hb : RepV C b v) (h : binSW T op t (isK x || isK y) C.s a b K) :
    ∃ av r, (∀ w, (do eqGuard op t x y u v; binOp op t u v : Sem Value).run P w = .ok r w) ∧ RepV C av r ∧ K av := by
  unfold binSW at h
  split at h
  · simp only [RepV, RepF] at ha hb
    subst ha; subst hb
    split at h
    · rename_i hlit
      obtain ⟨ti, hti, h⟩ := tyK_ok hT h
      obtain ⟨d, hd, hk⟩ := hti.und
      have hgd : ∀ w, (eqGuard op t x y .nilIface .nilIface).run P w = .ok () w := fun w => by
        unfold eqGuard
        cases x <;> cases y <;> first | (simp [isK] at hlit; done) | (cases op <;> simp)
      split at h
      · rename_i hdd
        rw [hdd] at hk
        cases d <;> simp [TD.of] at hk
        have hq : ∀ (n : Nat) (w : World), (Op.equalIn (n + 1) t .nilIface .nilIface).run P w = .ok true w := fun n w => by simp [Op.equalIn, run_underlying hd]
        split at h
        · exact ⟨_, .bool true, fun w => by rw [Sem.run_bind, hgd, Result.andThen_ok]; simp only [binOp]; simp [Op.equal, Op.maxDepth, hq 9999], by simp only [RepV, RepF], h⟩
        · exact ⟨_, .bool false, fun w => by rw [Sem.run_bind, hgd, Result.andThen_ok]; simp only [binOp]; simp [Op.equal, Op.maxDepth, hq 9999], by simp only [RepV, RepF], h⟩
        · exact h.elim
      · exact h.elim
    · exact h.elim
  · rename_i cs ds
    simp only [RepV] at ha hb
    obtain ⟨us, rfl, h1⟩ := ha
    obtain ⟨vs, rfl, h2⟩ := hb
    split at h
    · obtain ⟨hc, h⟩ := h
      obtain ⟨ti, hti, hc⟩ := tyK_ok hT hc
      obtain ⟨q1, q2, _⟩ := hti.cmp_ok hc
      obtain ⟨r, hr, h⟩ := eqTy_ok (P := P) hT 6 9999 (by decide) _ _ _ _ _ _ h1 h2 h
      exact ⟨_, .bool r, fun w => by rw [Sem.run_bind, run_eqGuard_agg w _ _ _ _ _ _ q2, Result.andThen_ok, run_eql_struct, hr]; rfl, by simp only [RepV, RepF], h⟩
    · obtain ⟨hc, h⟩ := h
      obtain ⟨ti, hti, hc⟩ := tyK_ok hT hc
      obtain ⟨q1, q2, _⟩ := hti.cmp_ok hc
      obtain ⟨r, hr, h⟩ := eqTy_ok (P := P) hT 6 9999 (by decide) _ _ _ _ _ _ h1 h2 h
      exact ⟨_, .bool !r, fun w => by rw [Sem.run_bind, run_eqGuard_agg w _ _ _ _ _ _ q2, Result.andThen_ok, run_neq_struct, hr]; rfl, by simp only [RepV, RepF], h⟩
    · exact h.elim
  · rename_i i v k off j v' k' off'
    obtain ⟨ti, hti, h⟩ := tyK_ok hT h
    split at h
    · rename_i e hd
      obtain ⟨te, hte, h⟩ := tyK_ok hT h
      split at h
      · exact h.elim
      · obtain ⟨o, ho, hver, ⟨e1, e2, e3, e4⟩, h5⟩ := objK_ok h
        clear h
        subst e1; subst e2; subst e3; subst e4
        have h := h5
        obtain ⟨_, g, hgb, rfl⟩ := ptr_live ho hver ha
        obtain ⟨_, g', hgb', rfl⟩ := ptr_live ho hver hb
        have : g' = g := by rw [hgb] at hgb'; simpa using hgb'.symm
        subst this
        obtain ⟨i, hi, _⟩ := hte.info
        have hq : ∀ (n : Nat) (w : World), (Op.equalIn (n + 1) t (.pointer (some ⟨g', k * o.sz + off, none⟩)) (.pointer (some ⟨g', k * o.sz + off, none⟩))).run P w = .ok true w := fun n w => by
          simp [Op.equalIn, run_underlying (und_ptr hti hd), sizeOf, typeInfo, hi, run_sameAddr_same]
        split at h
        · exact ⟨_, .bool true, fun w => by rw [Sem.run_bind, eqGuard_ptr, Result.andThen_ok]; simp only [binOp]; simp [Op.equal, Op.maxDepth, hq 9999], by simp only [RepV, RepF], h⟩
        · exact ⟨_, .bool false, fun w => by rw [Sem.run_bind, eqGuard_ptr, Result.andThen_ok]; simp only [binOp]; simp [Op.equal, Op.maxDepth, hq 9999], by simp only [RepV, RepF], h⟩
        · exact h.elim
    · exact h.elim
  · rename_i i v k off
    obtain ⟨ti, hti, h⟩ := tyK_ok hT h
    split at h
    · rename_i e hd
      obtain ⟨o, ho, hver, h⟩ := objK_ok h
      obtain ⟨_, g, hgb, rfl⟩ := ptr_live ho hver ha
      simp only [RepV, RepF] at hb
      subst hb
      have hq : ∀ (n : Nat) (w : World), (Op.equalIn (n + 1) t (.pointer (some ⟨g, k * o.sz + off, none⟩)) (.pointer none)).run P w = .ok false w := fun n w => by
          simp [Op.equalIn, run_underlying (und_ptr hti hd)]
      split at h
      · exact ⟨_, .bool false, fun w => by rw [Sem.run_bind, eqGuard_ptr, Result.andThen_ok]; simp only [binOp]; simp [Op.equal, Op.maxDepth, hq 9999], by simp only [RepV, RepF], h⟩
      · exact ⟨_, .bool true, fun w => by rw [Sem.run_bind, eqGuard_ptr, Result.andThen_ok]; simp only [binOp]; simp [Op.equal, Op.maxDepth, hq 9999], by simp only [RepV, RepF], h⟩
      · exact h.elim
    · exact h.elim
  · exact binW_ok hT ha hb h
end
end Go.Abs
/- Literals of structs, arrays and slices; bytes and texts. -/
namespace Go.Abs
open Go
section
variable {P : Program} {G : Globs} {T : TT} {C : Ctx}
theorem foldl_set (off : Nat) : ∀ (vs : List Value) (k : Nat) (cells : Array Value), off + k + vs.length ≤ cells.size →
    ((vs.zipIdx k).foldl (fun cs (x : Value × Nat) => cs.setIfInBounds (off + x.2) x.1) cells).toList = cells.toList.take (off + k) ++ vs ++ cells.toList.drop (off + k + vs.length)
  | [], k, cells, _ => by simp
  | v :: vs, k, cells, h => by
    simp only [List.zipIdx_cons, List.foldl_cons]
    rw [foldl_set off vs (k + 1) _ (by simp at h ⊢; omega)]
    have e := list_seg_step cells.toList (off + k) v vs (by simp at h ⊢; omega)
    simp only [Array.toList_setIfInBounds, List.length_cons]
    rw [show off + (k + 1) = off + k + 1 by omega, e]
def fillK (place : Nat → Option (Nat × Nat)) : List AV → List (Nat × AV) → (List AV → Prop) → Prop
  | cells, [], k => k cells
  | cells, (i, a) :: rest, k => match place i with
    | some (off, size) => valK a fun new => new.length = size ∧ spliceK cells off new fun c => fillK place c rest k
    | none => False
def RepP (C : Ctx) : List (Nat × AV) → List (Nat × Value) → Prop
  | [], vs => vs = []
  | (i, a) :: as, vs => ∃ v r, vs = (i, v) :: r ∧ RepV C a v ∧ RepP C as r
theorem fillK_ok {place : Nat → Option (Nat × Nat)} : ∀ {parts : List (Nat × AV)} {vals : List (Nat × Value)} {cells : List AV} {us : Array Value} {k : List AV → Prop}, RepL C cells us.toList → RepP C parts vals → fillK place cells parts k →
    ∃ cells' us', Instr.fill place us vals = some us' ∧ RepL C cells' us'.toList ∧ us'.size = us.size ∧ k cells'
  | [], vals, cells, us, k, hc, hp, h => by simp only [RepP] at hp; subst hp; exact ⟨cells, us, rfl, hc, rfl, h⟩
  | (i, a) :: parts, vals, cells, us, k, hc, hp, h => by
    simp only [RepP] at hp
    obtain ⟨v, r, rfl, hv, hr⟩ := hp
    unfold fillK at h
    split at h
    · rename_i off size hpl
      obtain ⟨new, hnew, hlen, h⟩ := valK_ok hv h
      obtain ⟨hfit, h⟩ := spliceK_ok h
      have hnl := RepL.length hnew
      have hcl := RepL.length hc
      simp only [Array.length_toList] at hnl hcl
      have hf := foldl_set off v.cells.toList 0 us (by simp; omega)
      have hrep : RepL C (splice cells off new) ((v.cells.toList.zipIdx 0).foldl (fun cs (x : Value × Nat) => cs.setIfInBounds (off + x.2) x.1) us).toList := by
        rw [hf]; simpa using RepL.splice (off := off) hc hnew
      obtain ⟨cells', us', h1, h2, h3, h4⟩ := fillK_ok hrep hr h
      refine ⟨cells', us', ?_, h2, ?_, h4⟩
      · simp only [Instr.fill, hpl]
        rw [if_neg (by simp; omega)]
        rw [← h1]
        congr 1
        rw [← Array.foldl_toList, Array.toList_zipIdx]
      · rw [h3]
        have := congrArg List.length hf
        simp at this ⊢
        omega
    · exact h.elim
def evPK (G : Globs) (e : Env) : List (Nat × Operand) → (List (Nat × AV) → Prop) → Prop
  | [], k => k []
  | (i, x) :: xs, k => evK G e x fun a => evPK G e xs fun as => k ((i, a) :: as)
theorem evPK_ok {e : Env} {a : Act} (hg : Good G C) (hr : RepL C e a.tmps.toList) : ∀ {xs : List (Nat × Operand)} {k : List (Nat × AV) → Prop}, evPK G e xs k → ∃ as, RepP C as (xs.map fun p => (p.1, a.eval p.2)) ∧ k as
  | [], k, h => ⟨[], by simp [RepP], h⟩
  | (i, x) :: xs, k, h => by
    unfold evPK at h
    obtain ⟨av, h1, h⟩ := evK_ok hg hr h
    obtain ⟨as, h2, h⟩ := evPK_ok hg hr h
    exact ⟨(i, av) :: as, by simp only [List.map_cons, RepP]; exact ⟨_, _, rfl, h1, h2⟩, h⟩
def fieldsK (T : TT) : List (Nat × TypeId) → (List (Nat × Nat) → Prop) → Prop
  | [], k => k []
  | (off, ty) :: fs, k => tyK T ty fun tf => fieldsK T fs fun r => k ((off, tf.size) :: r)
theorem fieldsK_ok (hT : TOk P T) : ∀ {fs : List Field} {k : List (Nat × Nat) → Prop}, fieldsK T (fs.map fun f => (f.offset, f.type)) k →
    ∃ places, fs.mapM (fun f => (P.info? f.type).map fun i => (f.offset, i.size)) = some places ∧ k places
  | [], k, h => ⟨[], rfl, h⟩
  | f :: fs, k, h => by
    simp only [List.map_cons, fieldsK] at h
    obtain ⟨tf, htf, h⟩ := tyK_ok hT h
    obtain ⟨places, h1, h2⟩ := fieldsK_ok hT h
    obtain ⟨i, hi, his, _⟩ := htf.info
    refine ⟨(f.offset, tf.size) :: places, ?_, h2⟩
    simp [List.mapM_cons, hi, his, h1]
def buildW (T : TT) (t : TypeId) (parts : List (Nat × AV)) (K : AV → Prop) : Prop :=
  tyK T t fun ti => ofVsK ti.zero fun zero => match ti.d with
    | .struct fs => fieldsK T fs fun pl => fillK (fun i => pl[i]?) zero parts fun cs => K (.agg cs)
    | .array _ e => tyK T e fun te => fillK (fun i => some (i * te.size, te.size)) zero parts fun cs => K (.agg cs)
    | _ => False
theorem buildW_ok {t : TypeId} {parts : List (Nat × AV)} {vals : Array (Nat × Value)} {K : AV → Prop} (hT : TOk P T) (hp : RepP C parts vals.toList) (h : buildW T t parts K) :
    ∃ av r, (∀ w, (Instr.build t vals).run P w = .ok r w) ∧ RepV C av r ∧ K av := by
  obtain ⟨ti, hti, h⟩ := tyK_ok hT h
  obtain ⟨zero, hz, h⟩ := ofVsK_ok (C := C) h
  obtain ⟨i, hi, his, _, z, hiz, hzc⟩ := hti.info
  have hzr : RepL C zero z.cells.toList := by rw [hzc]; exact RepFL.repL _ _ hz
  split at h
  · rename_i fs hd
    obtain ⟨gs, hu, hgs⟩ := und_struct hti hd
    subst hgs
    obtain ⟨places, hpl, h⟩ := fieldsK_ok hT h
    obtain ⟨cells', us', h1, h2, _, h3⟩ := fillK_ok hzr hp h
    refine ⟨.agg cells', .agg us', fun w => run_build w t vals us' ?_, by simp only [RepV]; exact ⟨us', rfl, h2⟩, h3⟩
    simp only [Program.built, hi, hu, hiz, hpl]
    simpa using h1
  · rename_i n e hd
    have hu := und_array hti hd
    obtain ⟨te, hte, h⟩ := tyK_ok hT h
    obtain ⟨ie, hie, hies, _⟩ := hte.info
    obtain ⟨cells', us', h1, h2, _, h3⟩ := fillK_ok hzr hp h
    refine ⟨.agg cells', .agg us', fun w => run_build w t vals us' ?_, by simp only [RepV]; exact ⟨us', rfl, h2⟩, h3⟩
    simp only [Program.built, hi, hu, hiz, hie, hies]
    exact h1
  · exact h.elim
def chunkK (sz : Nat) : Nat → List AV → (List (List AV) → Prop) → Prop
  | 0, cs, k => match cs with | [] => k [] | _ :: _ => False
  | n + 1, cs, k => takeK cs sz fun e => dropK cs sz fun r => chunkK sz n r fun es => k (e :: es)
theorem chunkK_ok {sz : Nat} : ∀ {n : Nat} {cs : List AV} {us : List Value} {k : List (List AV) → Prop}, RepL C cs us → chunkK sz n cs k → ∃ es, RepLL C es us ∧ es.length = n ∧ (∀ e ∈ es, e.length = sz) ∧ k es
  | 0, cs, us, k, hr, h => by
    cases cs with
    | nil => simp only [RepL] at hr; subst hr; exact ⟨[], by simp [RepLL], rfl, by simp, h⟩
    | cons c cs => exact h.elim
  | n + 1, cs, us, k, hr, h => by
    unfold chunkK at h
    obtain ⟨h1, h⟩ := takeK_ok h
    obtain ⟨h2, h⟩ := dropK_ok h
    obtain ⟨es, h3, h4, h5, h6⟩ := chunkK_ok (RepL.drop hr sz) h
    refine ⟨cs.take sz :: es, ?_, by simp [h4], ?_, h6⟩
    · simp only [RepLL]
      exact ⟨us.take sz, us.drop sz, by simp, RepL.take hr sz, h3⟩
    · intro e he
      rcases List.mem_cons.1 he with rfl | he
      · simp; omega
      · exact h5 e he
def repeatK (cs : List AV) : Nat → (List AV → Prop) → Prop
  | 0, k => k []
  | n + 1, k => repeatK cs n fun r => k (cs ++ r)
theorem repeatK_ok {cs : List AV} : ∀ {n : Nat} {k : List AV → Prop}, repeatK cs n k → k (List.replicate n cs).flatten
  | 0, k, h => h
  | n + 1, k, h => by have := repeatK_ok (n := n) h; simpa [List.replicate_succ] using this
def buildSliceW (T : TT) (t : TypeId) (len : Nat) (s : AHeap) (parts : List (Nat × AV)) (K : AV → AHeap → Prop) : Prop :=
  tyK T t fun ti => match ti.d with
    | .slice e => tyK T e fun te => ofVsK te.zero fun zero => match len with
      | 0 => match parts, te.size with
        | [], _ + 1 => ∀ ver, snocK s ⟨ver, e, te.size, []⟩ fun n s' => K (.sl n ver) s'
        | _, _ => False
      | m + 1 => (zero.length = te.size ∧ 0 < te.size ∧ (m + 1) * te.size ≤ 2 ^ 24) ∧ repeatK zero (m + 1) fun cs => fillK (fun i => some (i * te.size, te.size)) cs parts fun cs => chunkK te.size (m + 1) cs fun es =>
          ones cs = true ∧ ∀ ver, snocK s ⟨ver, e, te.size, es⟩ fun n s' => K (.sl n ver) s'
    | _ => False
theorem buildSliceW_ok {t : TypeId} {len : Nat} {parts : List (Nat × AV)} {vals : Array (Nat × Value)} {K : AV → AHeap → Prop} (hT : TOk P T) (hg : Good G C) (hp : RepP C parts vals.toList) (h : buildSliceW T t len C.s parts K) :
    YieldsA P G C (Instr.buildSlice t len vals) K := by
  obtain ⟨ti, hti, h1⟩ := tyK_ok hT h
  clear h
  split at h1
  · rename_i e hd
    have hu := und_slice hti hd
    obtain ⟨te, hte, h1⟩ := tyK_ok hT h1
    obtain ⟨zero, hz, h1⟩ := ofVsK_ok (C := C) h1
    obtain ⟨i, hi, his, _, z, hiz, hzc⟩ := hte.info
    have hzr : RepL C zero z.cells.toList := by rw [hzc]; exact RepFL.repL _ _ hz
    cases len with
    | zero =>
      simp only at h1
      split at h1
      · rename_i sz hsz
        simp only [RepP] at hp
        have h := h1 C.N
        rw [snocK_eq] at h
        obtain ⟨g1, g2, g3⟩ := good_row (C := C) (t := e) (sz := te.size) (n := 0) (cap := 0) (es := []) (xs := []) (cur := #[]) hg rfl rfl rfl rfl (by omega) (by simp) rfl (by simp [RepLL]) (by simp) (Nat.le_refl _) (Nat.zero_le _) (by simp) (by simp)
        refine ⟨_, _, _, ?_, g1, g2, g3, h⟩
        have hv : vals = #[] := by simpa using hp
        subst hv
        simp [Instr.buildSlice, run_underlying hu, sizeOf, typeInfo, hi, Instr.fill, newRow, Ctx.push, Array.range_zero']
      · exact h1.elim
    | succ m =>
      obtain ⟨⟨hzl, hpos, hbig⟩, h1⟩ := h1
      have h1 := repeatK_ok h1
      have hzs : z.cells.size = te.size := by rw [← hzl, ← RepL.length hzr]; simp
      have hflat : RepL C (List.replicate (m + 1) zero).flatten ((Array.range ((m + 1) * i.size)).map (z.cells[· % z.cells.size]!)).toList := by
        have e1 := madeCells_eq z.cells (by omega) (m + 1)
        rw [hzs, ← his] at e1
        unfold madeCells at e1
        rw [e1]
        generalize m + 1 = n
        induction n with
        | zero => simp [RepL]
        | succ n ih => simp only [List.replicate_succ, List.flatten_cons]; exact RepL.append hzr ih
      obtain ⟨cells', us', h2, h3, h4, h1⟩ := fillK_ok hflat hp h1
      obtain ⟨es, h5, h6, h7, hones, h1⟩ := chunkK_ok h3 h1
      have h := h1 C.N
      rw [snocK_eq] at h
      have hus : us'.size = (m + 1) * te.size := by rw [h4, his]; simp
      obtain ⟨g1, g2, g3⟩ := good_row (C := C) (t := e) (sz := te.size) (n := m + 1) (cap := m + 1) (es := es) (xs := us'.toList) (cur := us') hg rfl rfl rfl rfl hpos h7 h6 h5 (ones_ok h3 hones) (Nat.le_refl _)
        (by have : m + 1 ≤ (m + 1) * te.size := Nat.le_mul_of_pos_right _ hpos
            unfold maxLen; omega) hus (by rw [List.take_of_length_le]; simp [hus])
      refine ⟨_, _, _, ?_, g1, g2, g3, h⟩
      exact run_buildSlice C.w t e (m + 1) vals us' i z hu hi hiz (by rw [his]; omega) (by rw [his]; have : 0 < (m + 1) * te.size := Nat.mul_pos (by omega) hpos; omega) (by rw [his] at h2 ⊢; exact h2)
  · exact h1.elim
end
end Go.Abs
/- A call: the callee sees some of the caller's objects under numbers of its own. -/
namespace Go.Abs
open Go
inductive AEnd where
  | ret (v : AV)
  | panic (v : AV)
def CallsF (P : Program) (f : FuncId) (args : Array Value) (w : World) (R : Ending → World → Prop) : Prop :=
  match (callFunc f args).run P w with
  | .ok (.value v) w' => R (.returned v) w'
  | .ok (.enter g args) w' => Calls P g args w' R
  | _ => False
def REnd (C : Ctx) : AEnd → Ending → Prop
  | .ret a, .returned v => RepV C a v
  | .panic a, .panicked ch => ∃ v, ch = [{ v, recovered := false }] ∧ RepV C a v
  | _, _ => False
def EndPost (G : Globs) (C : Ctx) (n : Nat) (Q : AEnd → AHeap → Prop) (e : Ending) (w' : World) : Prop :=
  ∃ ae C', C'.w = w' ∧ Good G C' ∧ Ext C C' ∧ C'.s.length = n ∧ Q ae C'.s ∧ REnd C' ae e
def Does (P : Program) (G : Globs) (f : FuncId) (args : List AV) (O : AHeap) (Q : AEnd → AHeap → Prop) : Prop :=
  ∀ C cargs, Good G C → C.s = O → RepL C args cargs → CallsF P f cargs.toArray C.w (EndPost G C O.length Q)
theorem CallsF.mono {P : Program} {f : FuncId} {args : Array Value} {w : World} {R R' : Ending → World → Prop} (h : ∀ e w, R e w → R' e w) (hc : CallsF P f args w R) : CallsF P f args w R' := by
  unfold CallsF at *
  split at hc
  · exact h _ _ hc
  · exact hc.mono h
  · exact hc.elim
theorem Does.mono {P : Program} {G : Globs} {f : FuncId} {args : List AV} {O : AHeap} {Q Q' : AEnd → AHeap → Prop} (h : Does P G f args O Q) (hq : ∀ e s, Q e s → Q' e s) : Does P G f args O Q' :=
  fun C cargs hg hs hr => CallsF.mono (fun e w ⟨ae, C', h1, h2, h3, h4, h5, h6⟩ => ⟨ae, C', h1, h2, h3, h4, hq _ _ h5, h6⟩) (h C cargs hg hs hr)
mutual
def ren (js : List Nat) : AV → AV
  | .ptr i ver k off => match js[i]? with | some j => .ptr j ver k off | none => .any
  | .sl i ver => match js[i]? with | some j => .sl j ver | none => .any
  | .mp i ver => match js[i]? with | some j => .mp j ver | none => .any
  | .func fn f c => .func fn (renL js f) (renL js c)
  | .iface t x => .iface t (ren js x)
  | .agg cs => .agg (renL js cs)
  | .tuple cs => .tuple (renL js cs)
  | a => a
def renL (js : List Nat) : List AV → List AV
  | [] => []
  | a :: as => ren js a :: renL js as
end
def renLL (js : List Nat) : List (List AV) → List (List AV)
  | [] => []
  | e :: es => renL js e :: renLL js es
def renO (js : List Nat) (o : AObj) : AObj := { o with es := renLL js o.es }
mutual
def inside (n : Nat) : AV → Bool
  | .ptr i .. => Nat.blt i n
  | .sl i _ => Nat.blt i n
  | .mp i _ => Nat.blt i n
  | .func _ f c => insideL n f && insideL n c
  | .iface _ x => inside n x
  | .agg cs => insideL n cs
  | .tuple cs => insideL n cs
  | _ => true
def insideL (n : Nat) : List AV → Bool
  | [] => true
  | a :: as => inside n a && insideL n as
end
def insideLL (n : Nat) : List (List AV) → Bool
  | [] => true
  | e :: es => insideL n e && insideLL n es
mutual
theorem ren_closed (js : List Nat) : ∀ a : AV, closed a = true → ren js a = a
  | .any, _ => by simp [ren]
  | .bool _, _ => by simp [ren]
  | .int .., _ => by simp [ren]
  | .str _, _ => by simp [ren]
  | .nilp, _ => by simp [ren]
  | .ptr .., h => by simp [closed] at h
  | .fptr _, _ => by simp [ren]
  | .nils, _ => by simp [ren]
  | .sl .., h => by simp [closed] at h
  | .fsl _, _ => by simp [ren]
  | .mp .., h => by simp [closed] at h
  | .fmap _, _ => by simp [ren]
  | .nilf, _ => by simp [ren]
  | .func fn f c, h => by
    simp only [closed, Bool.and_eq_true] at h
    simp [ren, renL_closed js f h.1, renL_closed js c h.2]
  | .nili, _ => by simp [ren]
  | .iface t x, h => by simp only [closed] at h; simp [ren, ren_closed js x h]
  | .agg cs, h => by simp only [closed] at h; simp [ren, renL_closed js cs h]
  | .tuple cs, h => by simp only [closed] at h; simp [ren, renL_closed js cs h]
theorem renL_closed (js : List Nat) : ∀ as : List AV, closedL as = true → renL js as = as
  | [], _ => by simp [renL]
  | a :: as, h => by
    simp only [closedL, Bool.and_eq_true] at h
    simp [renL, ren_closed js a h.1, renL_closed js as h.2]
end
theorem renLL_closed (js : List Nat) : ∀ es : List (List AV), closedLL es = true → renLL js es = es
  | [], _ => by simp [renLL]
  | e :: es, h => by
    simp only [closedLL, Bool.and_eq_true] at h
    simp [renLL, renL_closed js e h.1, renLL_closed js es h.2]
mutual
theorem inside_closed (n : Nat) : ∀ a : AV, closed a = true → inside n a = true
  | .any, _ => by simp [inside]
  | .bool _, _ => by simp [inside]
  | .int .., _ => by simp [inside]
  | .str _, _ => by simp [inside]
  | .nilp, _ => by simp [inside]
  | .ptr .., h => by simp [closed] at h
  | .fptr _, _ => by simp [inside]
  | .nils, _ => by simp [inside]
  | .sl .., h => by simp [closed] at h
  | .fsl _, _ => by simp [inside]
  | .mp .., h => by simp [closed] at h
  | .fmap _, _ => by simp [inside]
  | .nilf, _ => by simp [inside]
  | .func fn f c, h => by
    simp only [closed, Bool.and_eq_true] at h
    simp [inside, insideL_closed n f h.1, insideL_closed n c h.2]
  | .nili, _ => by simp [inside]
  | .iface t x, h => by simp only [closed] at h; simp [inside, inside_closed n x h]
  | .agg cs, h => by simp only [closed] at h; simp [inside, insideL_closed n cs h]
  | .tuple cs, h => by simp only [closed] at h; simp [inside, insideL_closed n cs h]
theorem insideL_closed (n : Nat) : ∀ as : List AV, closedL as = true → insideL n as = true
  | [], _ => by simp [insideL]
  | a :: as, h => by
    simp only [closedL, Bool.and_eq_true] at h
    simp [insideL, inside_closed n a h.1, insideL_closed n as h.2]
end
theorem insideLL_closed (n : Nat) : ∀ es : List (List AV), closedLL es = true → insideLL n es = true
  | [], _ => by simp [insideLL]
  | e :: es, h => by
    simp only [closedLL, Bool.and_eq_true] at h
    simp [insideLL, insideL_closed n e h.1, insideLL_closed n es h.2]
structure Same (js : List Nat) (A B : Ctx) : Prop where
  w : B.w = A.w
  N : B.N = A.N
  live : ∀ k j, js[k]? = some j → ∀ o, A.live k o → ∃ o', B.live j o' ∧ o' = renO js o
  io : ∀ k j, js[k]? = some j → A.io k = B.io j
theorem renO_ver (js : List Nat) (o : AObj) : (renO js o).ver = o.ver := rfl
theorem renO_sz (js : List Nat) (o : AObj) : (renO js o).sz = o.sz := rfl
section
variable {js : List Nat} {A B : Ctx}
theorem out_ptr (h : Same js A B) (hlt : ∀ k o, A.live k o → k < js.length) {i j ver : Nat} (hj : js[i]? = some j) (hinj : ∀ o', B.live j o' → ∃ o, A.live i o ∧ o' = renO js o) :
    (∀ k off v, RepV A (.ptr i ver k off) v → RepV B (.ptr j ver k off) v) ∧ (∀ v, RepV A (.sl i ver) v → RepV B (.sl j ver) v) ∧ ∀ v, RepV A (.mp i ver) v → RepV B (.mp j ver) v := by
  refine ⟨fun k off v hr => ?_, fun v hr => ?_, fun v hr => ?_⟩
  · simp only [RepV] at *
    refine ⟨hr.1, by rw [h.N]; exact hr.2.1, fun o' ho' hv => ?_⟩
    obtain ⟨o, ho, rfl⟩ := hinj o' ho'
    obtain ⟨hz, g, hg, rfl⟩ := hr.2.2 o ho hv
    exact ⟨hz, g, by rw [← h.io i j hj]; exact hg, rfl⟩
  · simp only [RepV] at *
    refine ⟨hr.1, by rw [h.N]; exact hr.2.1, fun o' ho' hv => ?_⟩
    obtain ⟨o, ho, rfl⟩ := hinj o' ho'
    rw [← h.io i j hj]; exact hr.2.2 o ho hv
  · simp only [RepV] at *
    refine ⟨hr.1, by rw [h.N]; exact hr.2.1, fun o' ho' hv => ?_⟩
    obtain ⟨o, ho, rfl⟩ := hinj o' ho'
    rw [← h.io i j hj]; exact hr.2.2 o ho hv
mutual
theorem RepV.out (h : Same js A B) (hf : FExt A B) (hlt : ∀ k o, A.live k o → k < js.length) (hinj : ∀ i j, js[i]? = some j → ∀ o', B.live j o' → ∃ o, A.live i o ∧ o' = renO js o) :
    ∀ (a : AV) (v : Value), RepV A a v → RepV B (ren js a) v
  | .any, _, hr => by simp only [ren, RepV] at *; exact RepF.ext hf _ _ hr
  | .bool b, v, hr => by simp only [ren, RepV] at *; exact RepF.ext hf _ _ hr
  | .int k n, v, hr => by simp only [ren, RepV] at *; exact RepF.ext hf _ _ hr
  | .str s, v, hr => by simp only [ren, RepV] at *; exact RepF.ext hf _ _ hr
  | .nilp, v, hr => by simp only [ren, RepV] at *; exact RepF.ext hf _ _ hr
  | .ptr i ver k off, v, hr => by
    unfold ren
    split
    · rename_i j hj; exact (out_ptr h hlt hj (hinj i j hj)).1 k off v hr
    · simp [RepV, RepF]
  | .fptr cs, v, hr => by simp only [ren, RepV] at *; exact RepF.ext hf _ _ hr
  | .nils, v, hr => by simp only [ren, RepV] at *; exact RepF.ext hf _ _ hr
  | .sl i ver, v, hr => by
    unfold ren
    split
    · rename_i j hj; exact (out_ptr h hlt hj (hinj i j hj)).2.1 v hr
    · simp [RepV, RepF]
  | .fsl es, v, hr => by simp only [ren, RepV] at *; exact RepF.ext hf _ _ hr
  | .mp i ver, v, hr => by
    unfold ren
    split
    · rename_i j hj; exact (out_ptr h hlt hj (hinj i j hj)).2.2 v hr
    · simp [RepV, RepF]
  | .fmap es, v, hr => by simp only [ren, RepV] at *; exact RepF.ext hf _ _ hr
  | .nilf, v, hr => by simp only [ren, RepV] at *; exact RepF.ext hf _ _ hr
  | .func fn first captured, v, hr => by
    simp only [ren, RepV] at *
    obtain ⟨f, c, rfl, h1, h2⟩ := hr
    exact ⟨f, c, rfl, RepL.out h hf hlt hinj first _ h1, RepL.out h hf hlt hinj captured _ h2⟩
  | .nili, v, hr => by simp only [ren, RepV] at *; exact RepF.ext hf _ _ hr
  | .iface t x, v, hr => by
    simp only [ren, RepV] at *
    obtain ⟨y, rfl, hy⟩ := hr
    exact ⟨y, rfl, RepV.out h hf hlt hinj x y hy⟩
  | .agg cs, v, hr => by
    simp only [ren, RepV] at *
    obtain ⟨us, rfl, hl⟩ := hr
    exact ⟨us, rfl, RepL.out h hf hlt hinj cs _ hl⟩
  | .tuple cs, v, hr => by
    simp only [ren, RepV] at *
    obtain ⟨us, rfl, hl⟩ := hr
    exact ⟨us, rfl, RepL.out h hf hlt hinj cs _ hl⟩
theorem RepL.out (h : Same js A B) (hf : FExt A B) (hlt : ∀ k o, A.live k o → k < js.length) (hinj : ∀ i j, js[i]? = some j → ∀ o', B.live j o' → ∃ o, A.live i o ∧ o' = renO js o) :
    ∀ (as : List AV) (us : List Value), RepL A as us → RepL B (renL js as) us
  | [], us, hr => by simp only [renL, RepL] at *; exact hr
  | a :: as, us, hr => by
    simp only [renL, RepL] at *
    obtain ⟨u, r, rfl, h1, h2⟩ := hr
    exact ⟨u, r, rfl, RepV.out h hf hlt hinj a u h1, RepL.out h hf hlt hinj as r h2⟩
end
theorem RepLL.out (h : Same js A B) (hf : FExt A B) (hlt : ∀ k o, A.live k o → k < js.length) (hinj : ∀ i j, js[i]? = some j → ∀ o', B.live j o' → ∃ o, A.live i o ∧ o' = renO js o) :
    ∀ (es : List (List AV)) (us : List Value), RepLL A es us → RepLL B (renLL js es) us
  | [], us, hr => by simp only [renLL, RepLL] at *; exact hr
  | e :: es, us, hr => by
    simp only [renLL, RepLL] at *
    obtain ⟨p, r, rfl, h1, h2⟩ := hr
    exact ⟨p, r, rfl, RepL.out h hf hlt hinj e p h1, RepLL.out h hf hlt hinj es r h2⟩
mutual
theorem RepV.inn (h : Same js A B) (hf : FExt B A) : ∀ (a : AV) (v : Value), inside js.length a = true → RepV B (ren js a) v → RepV A a v
  | .any, _, _, hr => by simp only [ren, RepV] at *; exact RepF.ext hf _ _ hr
  | .bool b, v, _, hr => by simp only [ren, RepV] at *; exact RepF.ext hf _ _ hr
  | .int k n, v, _, hr => by simp only [ren, RepV] at *; exact RepF.ext hf _ _ hr
  | .str s, v, _, hr => by simp only [ren, RepV] at *; exact RepF.ext hf _ _ hr
  | .nilp, v, _, hr => by simp only [ren, RepV] at *; exact RepF.ext hf _ _ hr
  | .ptr i ver k off, v, hs, hr => by
    simp only [inside, Nat.blt_eq] at hs
    have hj : js[i]? = some js[i] := by simp [hs]
    simp only [ren, hj, RepV] at hr
    simp only [RepV]
    refine ⟨hr.1, by rw [← h.N]; exact hr.2.1, fun o ho hv => ?_⟩
    obtain ⟨o', ho', rfl⟩ := h.live i _ hj o ho
    obtain ⟨hz, g, hg, rfl⟩ := hr.2.2 _ ho' hv
    exact ⟨hz, g, by rw [h.io i _ hj]; exact hg, rfl⟩
  | .fptr cs, v, _, hr => by simp only [ren, RepV] at *; exact RepF.ext hf _ _ hr
  | .nils, v, _, hr => by simp only [ren, RepV] at *; exact RepF.ext hf _ _ hr
  | .sl i ver, v, hs, hr => by
    simp only [inside, Nat.blt_eq] at hs
    have hj : js[i]? = some js[i] := by simp [hs]
    simp only [ren, hj, RepV] at hr
    simp only [RepV]
    refine ⟨hr.1, by rw [← h.N]; exact hr.2.1, fun o ho hv => ?_⟩
    obtain ⟨o', ho', rfl⟩ := h.live i _ hj o ho
    have h9 := hr.2.2 _ ho' hv
    rw [h.io i _ hj]; exact h9
  | .fsl es, v, _, hr => by simp only [ren, RepV] at *; exact RepF.ext hf _ _ hr
  | .mp i ver, v, hs, hr => by
    simp only [inside, Nat.blt_eq] at hs
    have hj : js[i]? = some js[i] := by simp [hs]
    simp only [ren, hj, RepV] at hr
    simp only [RepV]
    refine ⟨hr.1, by rw [← h.N]; exact hr.2.1, fun o ho hv => ?_⟩
    obtain ⟨o', ho', rfl⟩ := h.live i _ hj o ho
    have h9 := hr.2.2 _ ho' hv
    rw [h.io i _ hj]; exact h9
  | .fmap es, v, _, hr => by simp only [ren, RepV] at *; exact RepF.ext hf _ _ hr
  | .nilf, v, _, hr => by simp only [ren, RepV] at *; exact RepF.ext hf _ _ hr
  | .func fn first captured, v, hs, hr => by
    simp only [inside, Bool.and_eq_true] at hs
    simp only [ren, RepV] at *
    obtain ⟨f, c, rfl, h1, h2⟩ := hr
    exact ⟨f, c, rfl, RepL.inn h hf first _ hs.1 h1, RepL.inn h hf captured _ hs.2 h2⟩
  | .nili, v, _, hr => by simp only [ren, RepV] at *; exact RepF.ext hf _ _ hr
  | .iface t x, v, hs, hr => by
    simp only [inside] at hs
    simp only [ren, RepV] at *
    obtain ⟨y, rfl, hy⟩ := hr
    exact ⟨y, rfl, RepV.inn h hf x y hs hy⟩
  | .agg cs, v, hs, hr => by
    simp only [inside] at hs
    simp only [ren, RepV] at *
    obtain ⟨us, rfl, hl⟩ := hr
    exact ⟨us, rfl, RepL.inn h hf cs _ hs hl⟩
  | .tuple cs, v, hs, hr => by
    simp only [inside] at hs
    simp only [ren, RepV] at *
    obtain ⟨us, rfl, hl⟩ := hr
    exact ⟨us, rfl, RepL.inn h hf cs _ hs hl⟩
theorem RepL.inn (h : Same js A B) (hf : FExt B A) : ∀ (as : List AV) (us : List Value), insideL js.length as = true → RepL B (renL js as) us → RepL A as us
  | [], us, _, hr => by simp only [renL, RepL] at *; exact hr
  | a :: as, us, hs, hr => by
    simp only [insideL, Bool.and_eq_true] at hs
    simp only [renL, RepL] at *
    obtain ⟨u, r, rfl, h1, h2⟩ := hr
    exact ⟨u, r, rfl, RepV.inn h hf a u hs.1 h1, RepL.inn h hf as r hs.2 h2⟩
end
theorem RepLL.inn (h : Same js A B) (hf : FExt B A) : ∀ (es : List (List AV)) (us : List Value), insideLL js.length es = true → RepLL B (renLL js es) us → RepLL A es us
  | [], us, _, hr => by simp only [renLL, RepLL] at *; exact hr
  | e :: es, us, hs, hr => by
    simp only [insideLL, Bool.and_eq_true] at hs
    simp only [renLL, RepLL] at *
    obtain ⟨p, r, rfl, h1, h2⟩ := hr
    exact ⟨p, r, rfl, RepL.inn h hf e p hs.1 h1, RepLL.inn h hf es r hs.2 h2⟩
end
end Go.Abs
/- A call, from the caller's side. -/
namespace Go.Abs
open Go
def putR (js0 : List Nat) : AHeap → List Nat → AHeap → AHeap
  | s, [], _ => s
  | s, _ :: _, [] => s
  | s, j :: js, o :: O => putR js0 (s.set j (o.map (renO js0))) js O
theorem putR_get (js0 : List Nat) : ∀ (js : List Nat) (O s : AHeap), js.Nodup → O.length = js.length → (∀ j ∈ js, j < s.length) → ∀ i : Nat,
    (∀ k : Nat, js[k]? = some i → (putR js0 s js O)[i]? = (O[k]?).map fun (o : Option AObj) => o.map (renO js0)) ∧ (i ∉ js → (putR js0 s js O)[i]? = s[i]?)
  | [], O, s, _, _, _, i => ⟨fun k hk => by simp at hk, fun _ => by simp [putR]⟩
  | j :: js, [], s, _, hl, _, i => by simp at hl
  | j :: js, o :: O, s, hnd, hl, hlt, i => by
    obtain ⟨hj, hnd⟩ := List.nodup_cons.1 hnd
    have ih := putR_get js0 js O (s.set j (o.map (renO js0))) hnd (by simpa using hl) (fun x hx => by rw [List.length_set]; exact hlt x (by simp [hx])) i
    simp only [putR]
    refine ⟨fun k hk => ?_, fun hi => ?_⟩
    · cases k with
      | zero =>
        simp only [List.getElem?_cons_zero, Option.some.injEq] at hk
        subst hk
        rw [ih.2 hj]
        simp [hlt j (by simp)]
      | succ k => simpa using ih.1 k (by simpa using hk)
    · simp only [List.mem_cons, not_or] at hi
      rw [ih.2 hi.2, List.getElem?_set_ne (fun e => hi.1 e.symm)]
theorem putR_length (js0 : List Nat) : ∀ (js : List Nat) (O s : AHeap), (putR js0 s js O).length = s.length
  | [], _, _ => by simp [putR]
  | _ :: _, [], _ => by simp [putR]
  | j :: js, o :: O, s => by simp only [putR]; rw [putR_length, List.length_set]
section
variable {P : Program} {G : Globs} {C : Ctx}
def Ctx.sub (C : Ctx) (js : List Nat) (O : AHeap) : Ctx :=
  { w := C.w, s := O, io := fun k => C.io (js.getD k 0), N := C.N, F := fun b => C.F b ∨ ∃ i o, C.live i o ∧ i ∉ js ∧ (C.io i).ownBlock = some b }
structure Hands (s : AHeap) (js : List Nat) (O : AHeap) : Prop where
  nodup : js.Nodup
  len : O.length = js.length
  lt : ∀ j ∈ js, j < s.length
  at_ : ∀ (k j : Nat), js[k]? = some j → s[j]? = (O[k]?).map fun (o : Option AObj) => o.map (renO js)
  inside : ∀ o, some o ∈ O → insideLL js.length o.es = true
variable {js : List Nat} {O : AHeap}
theorem sub_live (h : Hands C.s js O) {k j : Nat} (hj : js[k]? = some j) {o : AObj} (ho : (C.sub js O).live k o) : C.live j (renO js o) := by
  have ho : O[k]? = some (some o) := ho
  have := h.at_ k j hj
  unfold Ctx.live
  rw [this, ho]; rfl
theorem sub_lt (h : Hands C.s js O) {k : Nat} {o : AObj} (ho : (C.sub js O).live k o) : ∃ j, js[k]? = some j := by
  have ho : O[k]? = some (some o) := ho
  have hk : k < js.length := by rw [← h.len]; exact (List.getElem?_eq_some_iff.1 ho).1
  exact ⟨js[k], by simp [hk]⟩
theorem sub_io (js : List Nat) (O : AHeap) {k j : Nat} (hj : js[k]? = some j) : (C.sub js O).io k = C.io j := by simp [Ctx.sub, hj]
theorem sub_same (h : Hands C.s js O) : Same js (C.sub js O) C :=
  ⟨rfl, rfl, fun k j hj o ho => ⟨renO js o, sub_live h hj ho, rfl⟩, fun k j hj => sub_io js O hj⟩
theorem sub_fz (h : Hands C.s js O) (b : Nat) (hb : C.fz b) : (C.sub js O).fz b := by
  refine ⟨hb.1, fun k o ho => ?_, ?_⟩
  · obtain ⟨j, hj⟩ := sub_lt h ho
    rw [sub_io js O hj]
    exact hb.2.1 j _ (sub_live h hj ho)
  · rintro (hF | ⟨i, o, ho, _, hi⟩)
    · exact hb.2.2 hF
    · exact hb.2.1 i o ho hi
theorem sub_fext (h : Hands C.s js O) : FExt C (C.sub js O) := ⟨fun b hb => ⟨sub_fz h b hb, rfl⟩⟩
theorem sub_good (hg : Good G C) (h : Hands C.s js O) : Good G (C.sub js O) := by
  refine ⟨fun k o ho => ?_, fun k k' o o' ho ho' hne => ?_, fun k o ho g hgb hF => ?_, fun b hb => ?_, fun p hp => ?_⟩
  · obtain ⟨j, hj⟩ := sub_lt h ho
    have hl := sub_live h hj ho
    obtain ⟨a1, a2, a3, xs, a4, a5, a6⟩ := hg.obj j _ hl
    have ho' : O[k]? = some (some o) := ho
    have hin := h.inside o (List.mem_of_getElem? ho')
    have hlen : (renLL js o.es).length = o.es.length := by
      generalize o.es = es
      induction es with
      | nil => rfl
      | cons e es ih => simp [renLL, ih]
    have hsz : ∀ e ∈ o.es, e.length = wd o.sz := by
      have hL : ∀ e : List AV, (renL js e).length = e.length := fun e => by
        induction e with
        | nil => rfl
        | cons a e ih => simp [renL, ih]
      have : ∀ es : List (List AV), (∀ e ∈ renLL js es, e.length = wd o.sz) → ∀ e ∈ es, e.length = wd o.sz := fun es => by
        induction es with
        | nil => simp
        | cons x es ih =>
          intro hx e he
          simp only [renLL] at hx
          rcases List.mem_cons.1 he with rfl | he
          · rw [← hL]; exact hx _ (by simp)
          · exact ih (fun y hy => hx y (by simp [hy])) e he
      exact this o.es a3
    refine ⟨a1, a2, hsz, xs, ?_, RepLL.inn (sub_same h) (sub_fext h) _ _ hin a5, a6⟩
    rw [sub_io js O hj]
    have a4' : owns C.w o.t o.sz (C.io j) (renLL js o.es).length xs := a4
    rw [hlen] at a4'
    exact a4'
  · obtain ⟨j, hj⟩ := sub_lt h ho
    obtain ⟨j', hj'⟩ := sub_lt h ho'
    rw [sub_io js O hj, sub_io js O hj']
    refine hg.apart j j' _ _ (sub_live h hj ho) (sub_live h hj' ho') (fun e => hne ?_)
    subst e
    obtain ⟨h1, e1⟩ := List.getElem?_eq_some_iff.1 hj
    obtain ⟨h2, e2⟩ := List.getElem?_eq_some_iff.1 hj'
    exact (List.getElem_inj h.nodup).1 (e1.trans e2.symm)
  · obtain ⟨j, hj⟩ := sub_lt h ho
    rw [sub_io js O hj] at hgb
    rcases hF with hF | ⟨i, o', ho', hni, hi⟩
    · exact hg.own j _ (sub_live h hj ho) g hgb hF
    · have hmem : j ∈ js := List.mem_of_getElem? hj
      exact hg.apart i j o' _ ho' (sub_live h hj ho) (fun e => hni (e ▸ hmem)) g hi hgb
  · rcases hb with hb | ⟨i, o, ho, _, hi⟩
    · exact hg.out b hb
    · exact own_lt hg ho b hi
  · obtain ⟨us, h1, h2, h3⟩ := hg.glob p hp
    exact ⟨us, sub_fz h _ h1, h2, RepFL.ext (sub_fext h) _ _ h3⟩
def Ctx.back (C : Ctx) (js : List Nat) (D : Ctx) : Ctx :=
  { w := D.w, s := putR js C.s js D.s, io := fun i => match js.idxOf? i with | some k => D.io k | none => C.io i, N := D.N, F := C.F }
theorem idxOf_some {js : List Nat} (hnd : js.Nodup) {k j : Nat} (hj : js[k]? = some j) : js.idxOf? j = some k := by
  obtain ⟨hk, rfl⟩ := List.getElem?_eq_some_iff.1 hj
  rw [List.idxOf?_eq_some_iff]
  refine ⟨hk, by simp, fun i hi he => ?_⟩
  have : js[i] = js[k] := by simpa using he
  have := (List.getElem_inj hnd).1 this
  omega
theorem idxOf_none {js : List Nat} {j : Nat} (hj : j ∉ js) : js.idxOf? j = none := by simpa using hj
variable {D : Ctx}
theorem back_live (h : Hands C.s js O) (hD : D.s.length = O.length) {i : Nat} {x : AObj} (hx : (C.back js D).live i x) :
    (∃ k, js[k]? = some i ∧ ∃ o, D.live k o ∧ x = renO js o) ∨ (i ∉ js ∧ C.live i x) := by
  have hp := putR_get js js D.s C.s h.nodup (hD.trans h.len) h.lt i
  have hx : (putR js C.s js D.s)[i]? = some (some x) := hx
  by_cases hi : i ∈ js
  · obtain ⟨k, hk⟩ := List.getElem?_of_mem hi
    left
    rw [hp.1 k hk] at hx
    cases hO : D.s[k]? with
    | none => rw [hO] at hx; cases hx
    | some y =>
      cases y with
      | none => rw [hO] at hx; simp at hx
      | some y =>
        rw [hO] at hx
        simp only [Option.map_some, Option.some.injEq] at hx
        exact ⟨k, hk, y, hO, hx.symm⟩
  · rw [hp.2 hi] at hx
    exact .inr ⟨hi, hx⟩
theorem back_live' (h : Hands C.s js O) (hD : D.s.length = O.length) {k j : Nat} (hj : js[k]? = some j) {o : AObj} (ho : D.live k o) : (C.back js D).live j (renO js o) := by
  have hp := (putR_get js js D.s C.s h.nodup (hD.trans h.len) h.lt j).1 k hj
  have ho : D.s[k]? = some (some o) := ho
  show (putR js C.s js D.s)[j]? = some (some (renO js o))
  rw [hp, ho]; rfl
theorem back_io (h : Hands C.s js O) {k j : Nat} (hj : js[k]? = some j) : (C.back js D).io j = D.io k := by
  simp [Ctx.back, idxOf_some h.nodup hj]
theorem back_io' {i : Nat} (hi : i ∉ js) : (C.back js D).io i = C.io i := by
  simp [Ctx.back, idxOf_none hi]
theorem back_same (h : Hands C.s js O) (hD : D.s.length = O.length) : Same js D (C.back js D) :=
  ⟨rfl, rfl, fun k j hj o ho => ⟨renO js o, back_live' h hD hj ho, rfl⟩, fun k j hj => (back_io h hj).symm⟩
theorem back_inj (h : Hands C.s js O) (hD : D.s.length = O.length) (i j : Nat) (hj : js[i]? = some j) (o' : AObj) (ho' : (C.back js D).live j o') : ∃ o, D.live i o ∧ o' = renO js o := by
  rcases back_live h hD ho' with ⟨k, hk, o, ho, rfl⟩ | ⟨hn, _⟩
  · have : k = i := by
      obtain ⟨h1, e1⟩ := List.getElem?_eq_some_iff.1 hk
      obtain ⟨h2, e2⟩ := List.getElem?_eq_some_iff.1 hj
      exact (List.getElem_inj h.nodup).1 (e1.trans e2.symm)
    subst this
    exact ⟨o, ho, rfl⟩
  · exact absurd (List.mem_of_getElem? hj) hn
variable (hE : Ext (C.sub js O) D)
include hE
theorem back_fz (h : Hands C.s js O) (hD : D.s.length = O.length) (b : Nat) (hb : D.fz b) : (C.back js D).fz b := by
  have hF : ¬ ((C.F b) ∨ ∃ i o, C.live i o ∧ i ∉ js ∧ (C.io i).ownBlock = some b) := by have := hb.2.2; rw [hE.F] at this; exact this
  refine ⟨hb.1, fun i x hx => ?_, fun hf => hF (.inl hf)⟩
  rcases back_live h hD hx with ⟨k, hk, o, ho, rfl⟩ | ⟨hn, hl⟩
  · rw [back_io h hk]; exact hb.2.1 k o ho
  · rw [back_io' hn]; exact fun e => hF (.inr ⟨i, x, hl, hn, e⟩)
theorem back_ext (hg : Good G C) (h : Hands C.s js O) (hD : D.s.length = O.length) : Ext C (C.back js D) := by
  refine ⟨hE.os, hE.tape, hE.output, hE.size, hE.N, rfl, fun b hb => hE.out b (.inl hb), fun i x hx hlt => ?_, fun b hb => ?_⟩
  · rcases back_live h hD hx with ⟨k, hk, o, ho, rfl⟩ | ⟨hn, hl⟩
    · obtain ⟨o0, ho0, e1, e2, e3⟩ := hE.live k o ho hlt
      refine ⟨renO js o0, sub_live h hk ho0, e1, e2, ?_⟩
      rw [back_io h hk, e3, sub_io js O hk]
    · exact ⟨x, hl, rfl, rfl, back_io' hn⟩
  · obtain ⟨h1, h2⟩ := hE.fz b (sub_fz h b hb)
    exact ⟨back_fz hE h hD b h1, h2⟩
theorem back_good (hg : Good G C) (hgD : Good G D) (h : Hands C.s js O) (hD : D.s.length = O.length) : Good G (C.back js D) := by
  have hfx : FExt D (C.back js D) := ⟨fun b hb => ⟨back_fz hE h hD b hb, rfl⟩⟩
  have hlt : ∀ k o, D.live k o → k < js.length := fun k o ho => by rw [← h.len, ← hD]; exact live_lt ho
  have hex := back_ext hE hg h hD
  have hFD : D.F = (C.sub js O).F := hE.F
  refine ⟨fun i x hx => ?_, fun i i' x x' hx hx' hne g hgb hgb' => ?_, fun i x hx g hgb hF => ?_, fun b hb => Nat.lt_of_lt_of_le (hg.out b hb) hE.size, fun p hp => ?_⟩
  · rcases back_live h hD hx with ⟨k, hk, o, ho, rfl⟩ | ⟨hn, hl⟩
    · obtain ⟨a1, a2, a3, xs, a4, a5, a6⟩ := hgD.obj k o ho
      have hL : ∀ e : List AV, (renL js e).length = e.length := fun e => by
        induction e with
        | nil => rfl
        | cons a e ih => simp [renL, ih]
      have hLL : ∀ es : List (List AV), (renLL js es).length = es.length ∧ ((∀ e ∈ es, e.length = wd o.sz) → ∀ e ∈ renLL js es, e.length = wd o.sz) := fun es => by
        induction es with
        | nil => simp [renLL]
        | cons x es ih =>
          refine ⟨by simp [renLL, ih.1], fun hx e he => ?_⟩
          simp only [renLL] at he
          rcases List.mem_cons.1 he with rfl | he
          · rw [hL]; exact hx x (by simp)
          · exact ih.2 (fun y hy => hx y (by simp [hy])) e he
      refine ⟨a1, a2, (hLL o.es).2 a3, xs, ?_, RepLL.out (back_same h hD) hfx hlt (back_inj h hD) _ _ a5, a6⟩
      rw [back_io h hk]
      have : owns D.w o.t o.sz (D.io k) (renLL js o.es).length xs := by rw [(hLL o.es).1]; exact a4
      exact this
    · obtain ⟨a1, a2, a3, xs, a4, a5, a6⟩ := hg.obj i x hl
      refine ⟨Nat.lt_of_lt_of_le a1 hE.N, a2, a3, xs, ?_, RepLL.ext hex _ _ a5, a6⟩
      rw [back_io' hn]
      -- its block is one of those that the callee may not touch
      exact a4.same fun g hgb => hE.out g (.inr ⟨i, x, hl, hn, hgb⟩)
  · rcases back_live h hD hx with ⟨k, hk, o, ho, rfl⟩ | ⟨hn, hl⟩ <;> rcases back_live h hD hx' with ⟨k', hk', o', ho', rfl⟩ | ⟨hn', hl'⟩
    · rw [back_io h hk] at hgb
      rw [back_io h hk'] at hgb'
      refine hgD.apart k k' o o' ho ho' (fun e => hne ?_) g hgb hgb'
      subst e
      exact Option.some.inj (hk.symm.trans hk')
    · rw [back_io h hk] at hgb
      rw [back_io' hn'] at hgb'
      exact hgD.own k o ho g hgb (by rw [hFD]; exact .inr ⟨i', x', hl', hn', hgb'⟩)
    · rw [back_io' hn] at hgb
      rw [back_io h hk'] at hgb'
      exact hgD.own k' o' ho' g hgb' (by rw [hFD]; exact .inr ⟨i, x, hl, hn, hgb⟩)
    · rw [back_io' hn] at hgb
      rw [back_io' hn'] at hgb'
      exact hg.apart i i' x x' hl hl' hne g hgb hgb'
  · rcases back_live h hD hx with ⟨k, hk, o, ho, rfl⟩ | ⟨hn, hl⟩
    · rw [back_io h hk] at hgb
      exact hgD.own k o ho g hgb (by rw [hFD]; exact .inl hF)
    · rw [back_io' hn] at hgb
      exact hg.own i x hl g hgb hF
  · obtain ⟨us, h1, h2, h3⟩ := hgD.glob p hp
    exact ⟨us, back_fz hE h hD _ h1, h2, RepFL.ext hfx _ _ h3⟩
omit hE
theorem call_ok {f : FuncId} {as' : List AV} {cargs : List Value} {Q : AEnd → AHeap → Prop} (hg : Good G C) (h : Hands C.s js O) (hin : insideL js.length as' = true) (hr : RepL C (renL js as') cargs) (hd : Does P G f as' O Q) :
    CallsF P f cargs.toArray C.w fun e w' => ∃ ae s' C', C'.w = w' ∧ Good G C' ∧ Ext C C' ∧ C'.s = putR js C.s js s' ∧ s'.length = O.length ∧ Q ae s' ∧ match ae, e with
      | .ret r, .returned v => RepV C' (ren js r) v
      | .panic a, .panicked ch => ∃ v, ch = [{ v, recovered := false }] ∧ RepV C' (ren js a) v
      | _, _ => False := by
  refine CallsF.mono ?_ (hd (C.sub js O) cargs (sub_good hg h) rfl (RepL.inn (sub_same h) (sub_fext h) _ _ hin hr))
  rintro e w' ⟨ae, D, rfl, h2, h3, h4, h5, h6⟩
  have hfx : FExt D (C.back js D) := ⟨fun b hb => ⟨back_fz h3 h h4 b hb, rfl⟩⟩
  have hlt : ∀ k o, D.live k o → k < js.length := fun k o ho => by rw [← h.len, ← h4]; exact live_lt ho
  refine ⟨ae, D.s, C.back js D, rfl, back_good h3 hg h2 h h4, back_ext h3 hg h h4, rfl, h4, h5, ?_⟩
  cases ae with
  | ret r =>
    cases e with
    | returned v => exact RepV.out (back_same h h4) hfx hlt (back_inj h h4) _ _ h6
    | panicked ch => exact h6.elim
    | outgrown => exact h6.elim
  | panic a =>
    cases e with
    | returned v => exact h6.elim
    | panicked ch =>
      obtain ⟨v, h7, h8⟩ := h6
      exact ⟨v, h7, RepV.out (back_same h h4) hfx hlt (back_inj h h4) _ _ h8⟩
    | outgrown => exact h6.elim
end
end Go.Abs
