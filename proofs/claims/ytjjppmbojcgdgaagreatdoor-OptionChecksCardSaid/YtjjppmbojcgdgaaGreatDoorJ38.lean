/- What the laws of options need. -/
import Derived.Test.YtjjppmbojcgdgaaGreatDoorJ37
import Derived.Test.YtjjppmbojcgdgaaGreatDoorJ33
import Derived.Test.YtjjppmbojcgdgaaGreatDoorJ20
import Derived.Test.YtjjppmbojcgdgaaGreatDoorJ16
import Derived.Test.YtjjppmbojcgdgaaGreatDoorJ17
import Derived.Test.YtjjppmbojcgdgaaGreatDoorJ29
import Derived.Test.YtjjppmbojcgdgaaGreatDoorJ15
set_option linter.unusedVariables false
set_option linter.unusedSimpArgs false
set_option maxRecDepth 100000
set_option maxHeartbeats 4000000

namespace Go.Proofs.YtjjppmbojcgdgaaGreatDoor
open Go Go.Abs
set_option linter.unusedVariables false
set_option linter.unusedSimpArgs false
structure TPrec where
  kind : Int
  min : Int
  max : Int
  inc : TDec
  mode : Int
  minInt : Int
structure TOpt where
  style : Int
  compact : Int
  code : List UInt8
  unit : List UInt8
  sym : Int
  cash : Bool
  mode : Int
  own : Bool
  prec : TPrec
  plain : Bool
def flagI (b : Bool) : Int := if b then 1 else 0
def numI : Rd → Int × Rd := bnd numRd fun n => rtn (n : Int)
def flagRd : Rd → Bool × Rd := bnd (countRd 1) fun n => rtn (decide (n = 1))
def incRd (r : Rd) : TDec × Rd :=
  if (parD (textRd r).1).2 = 0 ∧ strD (parD (textRd r).1).1 = (textRd r).1 then ((parD (textRd r).1).1, (textRd r).2) else ((parD (textRd r).1).1, { (textRd r).2 with bad := true })
def decO : Rd → TOpt × Rd :=
  bnd numI fun a => bnd numI fun b => bnd textRd fun c => bnd textRd fun d => bnd numI fun e => bnd flagRd fun f => bnd numI fun g => bnd flagRd fun h => bnd flagRd fun i =>
  bnd numI fun j => bnd numI fun k => bnd numI fun l => bnd incRd fun m => bnd numI fun n => bnd numI fun q => rtn ⟨a, b, c, d, e, f, g, i, ⟨j, k, l, m, n, q⟩, h⟩
def encO (o : TOpt) : List UInt8 :=
  numW o.style ++ (numW o.compact ++ (textW o.code ++ (textW o.unit ++ (numW o.sym ++ (numW (flagI o.cash) ++ (numW o.mode ++ (numW (flagI o.plain) ++ (numW (flagI o.own) ++
  (numW o.prec.kind ++ (numW o.prec.min ++ (numW o.prec.max ++ (textW (strD o.prec.inc) ++ (numW o.prec.mode ++ (numW o.prec.minInt ++ []))))))))))))))
def TOpt.norm (o : TOpt) : TOpt := { o with prec := { o.prec with inc := normD o.prec.inc } }
theorem encO_norm (o : TOpt) : encO o.norm = encO o := by unfold encO TOpt.norm; simp only [str_norm]
theorem numI_sticks : Sticks numI := sticks_bnd num_sticks fun _ => sticks_rtn _
theorem flag_sticks : Sticks flagRd := sticks_bnd (count_sticks 1) fun _ => sticks_rtn _
theorem inc_sticks : Sticks incRd := fun r h => by
  have := text_sticks r h
  unfold incRd
  split
  · exact this
  · rfl
theorem backs_rtn {α : Type} (a : α) : Backs (rtn a) (fun _ => []) := fun r v h _ => ⟨v, rfl, h, rfl⟩
theorem numI_backs : Backs numI numW := backs_bnd (fun _ _ => []) num_backs (fun a => backs_rtn _) (fun _ => sticks_rtn _) (fun r _ => (List.append_nil _).symm)
theorem flag_backs : Backs flagRd (fun b => numW (flagI b)) := backs_bnd (fun _ _ => []) (count_backs 1) (fun a => backs_rtn _) (fun _ => sticks_rtn _) (fun r _ => by
  rw [List.append_nil]
  have := count_le 1 r
  show numW (flagI (decide ((countRd 1 r).1 = 1))) = numW ((countRd 1 r).1 : Int)
  generalize (countRd 1 r).1 = n at *
  have h2 : n = 0 ∨ n = 1 := by omega
  rcases h2 with rfl | rfl <;> rfl)
theorem inc_backs : Backs incRd (fun d => textW (strD d)) := fun r v hr h => by
  unfold incRd at *
  split at h
  · rename_i hc
    rw [if_pos hc]
    obtain ⟨u, e1, e2, e3⟩ := text_backs r v hr h
    refine ⟨u, ?_, e2, e3⟩
    show v = textW (strD (parD (textRd r).1).1) ++ u
    rw [e1, hc.2]
  · cases h
theorem numI_cuts (n : Int) : Cuts numI (numW n) := fun r v t h1 h2 h3 => num_cuts n r v t h1 h2 h3
theorem flag_cuts (b : Bool) : Cuts flagRd (numW (flagI b)) := fun r v t h1 h2 h3 => by
  have : numW (flagI b) = numW ((if b then 1 else 0 : Nat) : Int) := by cases b <;> rfl
  rw [this] at h2
  exact count_cuts 1 _ r v t h1 h2 h3
theorem inc_cuts {d : TDec} (h : (strD d).length < 2 ^ 63) : Cuts incRd (textW (strD d)) := fun r v t h1 h2 h3 => by
  have := text_cuts h r v t h1 h2 h3
  unfold incRd
  split
  · exact this
  · rfl
theorem numI_reads {n : Int} (h0 : 0 ≤ n) (h1 : n < 2 ^ 63) : Rds numI (numW n) n := fun r post h => by
  obtain ⟨e1, e2, e3⟩ := num_reads h0 h1 r post h
  refine ⟨?_, e2, e3⟩
  show ((numRd r).1 : Int) = n
  rw [e1]; omega
theorem flag_reads (b : Bool) : Rds flagRd (numW (flagI b)) b := fun r post h => by
  have : numW (flagI b) = numW ((if b then 1 else 0 : Nat) : Int) := by cases b <;> rfl
  rw [this] at h
  obtain ⟨e1, e2, e3⟩ := count_reads (most := 1) (n := if b then 1 else 0) (by cases b <;> simp) (by decide) r post h
  refine ⟨?_, e2, e3⟩
  show decide ((countRd 1 r).1 = 1) = b
  rw [e1]; cases b <;> rfl
theorem inc_reads {d : TDec} (h : (strD d).length < 2 ^ 63) (hp : (parD (strD d)).2 = 0) : Rds incRd (textW (strD d)) (normD d) := fun r post hr => by
  obtain ⟨e1, e2, e3⟩ := text_reads h r post hr
  have hc : (parD (textRd r).1).2 = 0 ∧ strD (parD (textRd r).1).1 = (textRd r).1 := by
    rw [e1, par_str d hp]; exact ⟨hp, str_norm d⟩
  unfold incRd
  rw [if_pos hc]
  exact ⟨by rw [e1]; exact par_str d hp, e2, e3⟩
def Nils {α : Type} (f : Rd → α × Rd) (w : List UInt8) : Prop := ∀ r v t, RdAt r v → w = v ++ t → (f r).2.bad = true
theorem nils_bnd {α β : Type} {f : Rd → α × Rd} {g : α → Rd → β × Rd} {w x : List UInt8} {a : α} (h1 : Cuts f w) (h2 : Rds f w a) (h3 : Nils (g a) x) (h4 : ∀ b, Sticks (g b)) : Nils (bnd f g) (w ++ x) := by
  intro r v t hr hw
  rcases append_split hw with ⟨u, h, hu⟩ | ⟨u, rfl, hx⟩
  · exact h4 _ _ (h1 r v u hr h hu)
  · obtain ⟨e1, A1, _⟩ := h2 r u hr
    have := h3 (f r).2 u t A1 hx
    rw [← e1] at this
    exact this
theorem nils_inc {β : Type} {g : TDec → Rd → β × Rd} {d : TDec} {x : List UInt8} (h : (strD d).length < 2 ^ 63) (hp : (parD (strD d)).2 ≠ 0) (h4 : ∀ b, Sticks (g b)) : Nils (bnd incRd g) (textW (strD d) ++ x) := by
  intro r v t hr hw
  rcases append_split hw with ⟨u, h1, hu⟩ | ⟨u, rfl, hx⟩
  · exact h4 _ _ (inc_cuts h r v u hr h1 hu)
  · obtain ⟨e1, A1, _⟩ := text_reads h r u hr
    refine h4 _ _ ?_
    unfold incRd
    rw [if_neg (by rw [e1]; exact fun h => hp h.1)]
structure TOpt.okO (o : TOpt) : Prop where
  st : 0 ≤ o.style ∧ o.style < 2 ^ 63
  co : 0 ≤ o.compact ∧ o.compact < 2 ^ 63
  cd : o.code.length < 2 ^ 63
  un : o.unit.length < 2 ^ 63
  sy : 0 ≤ o.sym ∧ o.sym < 2 ^ 63
  mo : 0 ≤ o.mode ∧ o.mode < 2 ^ 63
  ki : 0 ≤ o.prec.kind ∧ o.prec.kind < 2 ^ 63
  mi : 0 ≤ o.prec.min ∧ o.prec.min < 2 ^ 63
  ma : 0 ≤ o.prec.max ∧ o.prec.max < 2 ^ 63
  ic : (strD o.prec.inc).length < 2 ^ 63
  pm : 0 ≤ o.prec.mode ∧ o.prec.mode < 2 ^ 63
  pi : 0 ≤ o.prec.minInt ∧ o.prec.minInt < 2 ^ 63
theorem stO {α : Type} {f : Rd → α × Rd} (h : Sticks f := by (repeat (first | exact sticks_rtn _ | refine sticks_bnd numI_sticks fun _ => ?_ | refine sticks_bnd text_sticks fun _ => ?_ | refine sticks_bnd flag_sticks fun _ => ?_ | refine sticks_bnd inc_sticks fun _ => ?_))) : Sticks f := h
theorem decO_reads {o : TOpt} (h : o.okO) (hp : (parD (strD o.prec.inc)).2 = 0) : Rds decO (encO o) o.norm :=
  rds_bnd (numI_reads h.st.1 h.st.2) <| rds_bnd (numI_reads h.co.1 h.co.2) <| rds_bnd (text_reads h.cd) <| rds_bnd (text_reads h.un) <| rds_bnd (numI_reads h.sy.1 h.sy.2) <| rds_bnd (flag_reads _) <|
  rds_bnd (numI_reads h.mo.1 h.mo.2) <| rds_bnd (flag_reads _) <| rds_bnd (flag_reads _) <| rds_bnd (numI_reads h.ki.1 h.ki.2) <| rds_bnd (numI_reads h.mi.1 h.mi.2) <| rds_bnd (numI_reads h.ma.1 h.ma.2) <|
  rds_bnd (inc_reads h.ic hp) <| rds_bnd (numI_reads h.pm.1 h.pm.2) <| rds_bnd (numI_reads h.pi.1 h.pi.2) <| rds_ret _
theorem decO_cuts {o : TOpt} (h : o.okO) (hp : (parD (strD o.prec.inc)).2 = 0) : Cuts decO (encO o) := by
  unfold decO encO
  refine cuts_bnd (numI_cuts _) (numI_reads h.st.1 h.st.2) ?_ (fun _ => stO)
  refine cuts_bnd (numI_cuts _) (numI_reads h.co.1 h.co.2) ?_ (fun _ => stO)
  refine cuts_bnd (text_cuts h.cd) (text_reads h.cd) ?_ (fun _ => stO)
  refine cuts_bnd (text_cuts h.un) (text_reads h.un) ?_ (fun _ => stO)
  refine cuts_bnd (numI_cuts _) (numI_reads h.sy.1 h.sy.2) ?_ (fun _ => stO)
  refine cuts_bnd (flag_cuts _) (flag_reads _) ?_ (fun _ => stO)
  refine cuts_bnd (numI_cuts _) (numI_reads h.mo.1 h.mo.2) ?_ (fun _ => stO)
  refine cuts_bnd (flag_cuts _) (flag_reads _) ?_ (fun _ => stO)
  refine cuts_bnd (flag_cuts _) (flag_reads _) ?_ (fun _ => stO)
  refine cuts_bnd (numI_cuts _) (numI_reads h.ki.1 h.ki.2) ?_ (fun _ => stO)
  refine cuts_bnd (numI_cuts _) (numI_reads h.mi.1 h.mi.2) ?_ (fun _ => stO)
  refine cuts_bnd (numI_cuts _) (numI_reads h.ma.1 h.ma.2) ?_ (fun _ => stO)
  refine cuts_bnd (inc_cuts h.ic) (inc_reads h.ic hp) ?_ (fun _ => stO)
  refine cuts_bnd (numI_cuts _) (numI_reads h.pm.1 h.pm.2) ?_ (fun _ => stO)
  refine cuts_bnd (numI_cuts _) (numI_reads h.pi.1 h.pi.2) (cuts_nil _) (fun _ => stO)
theorem decO_nils {o : TOpt} (h : o.okO) (hp : (parD (strD o.prec.inc)).2 ≠ 0) : Nils decO (encO o) := by
  unfold decO encO
  refine nils_bnd (numI_cuts _) (numI_reads h.st.1 h.st.2) ?_ (fun _ => stO)
  refine nils_bnd (numI_cuts _) (numI_reads h.co.1 h.co.2) ?_ (fun _ => stO)
  refine nils_bnd (text_cuts h.cd) (text_reads h.cd) ?_ (fun _ => stO)
  refine nils_bnd (text_cuts h.un) (text_reads h.un) ?_ (fun _ => stO)
  refine nils_bnd (numI_cuts _) (numI_reads h.sy.1 h.sy.2) ?_ (fun _ => stO)
  refine nils_bnd (flag_cuts _) (flag_reads _) ?_ (fun _ => stO)
  refine nils_bnd (numI_cuts _) (numI_reads h.mo.1 h.mo.2) ?_ (fun _ => stO)
  refine nils_bnd (flag_cuts _) (flag_reads _) ?_ (fun _ => stO)
  refine nils_bnd (flag_cuts _) (flag_reads _) ?_ (fun _ => stO)
  refine nils_bnd (numI_cuts _) (numI_reads h.ki.1 h.ki.2) ?_ (fun _ => stO)
  refine nils_bnd (numI_cuts _) (numI_reads h.mi.1 h.mi.2) ?_ (fun _ => stO)
  refine nils_bnd (numI_cuts _) (numI_reads h.ma.1 h.ma.2) ?_ (fun _ => stO)
  exact nils_inc h.ic hp (fun _ => stO)
def eO14 (o : TOpt) : List UInt8 := numW o.prec.minInt ++ []
def eO13 (o : TOpt) : List UInt8 := numW o.prec.mode ++ eO14 o
def eO12 (o : TOpt) : List UInt8 := textW (strD o.prec.inc) ++ eO13 o
def eO11 (o : TOpt) : List UInt8 := numW o.prec.max ++ eO12 o
def eO10 (o : TOpt) : List UInt8 := numW o.prec.min ++ eO11 o
def eO9 (o : TOpt) : List UInt8 := numW o.prec.kind ++ eO10 o
def eO8 (o : TOpt) : List UInt8 := numW (flagI o.own) ++ eO9 o
def eO7 (o : TOpt) : List UInt8 := numW (flagI o.plain) ++ eO8 o
def eO6 (o : TOpt) : List UInt8 := numW o.mode ++ eO7 o
def eO5 (o : TOpt) : List UInt8 := numW (flagI o.cash) ++ eO6 o
def eO4 (o : TOpt) : List UInt8 := numW o.sym ++ eO5 o
def eO3 (o : TOpt) : List UInt8 := textW o.unit ++ eO4 o
def eO2 (o : TOpt) : List UInt8 := textW o.code ++ eO3 o
def eO1 (o : TOpt) : List UInt8 := numW o.compact ++ eO2 o
theorem decO_backs : Backs decO encO :=
  backs_bnd (x := encO) (fun _ => eO1) numI_backs (fun _ => 
  backs_bnd (x := eO1) (fun _ => eO2) numI_backs (fun _ => 
  backs_bnd (x := eO2) (fun _ => eO3) text_backs (fun _ => 
  backs_bnd (x := eO3) (fun _ => eO4) text_backs (fun _ => 
  backs_bnd (x := eO4) (fun _ => eO5) numI_backs (fun _ => 
  backs_bnd (x := eO5) (fun _ => eO6) flag_backs (fun _ => 
  backs_bnd (x := eO6) (fun _ => eO7) numI_backs (fun _ => 
  backs_bnd (x := eO7) (fun _ => eO8) flag_backs (fun _ => 
  backs_bnd (x := eO8) (fun _ => eO9) flag_backs (fun _ => 
  backs_bnd (x := eO9) (fun _ => eO10) numI_backs (fun _ => 
  backs_bnd (x := eO10) (fun _ => eO11) numI_backs (fun _ => 
  backs_bnd (x := eO11) (fun _ => eO12) numI_backs (fun _ => 
  backs_bnd (x := eO12) (fun _ => eO13) inc_backs (fun _ => 
  backs_bnd (x := eO13) (fun _ => eO14) numI_backs (fun _ => 
  backs_bnd (x := eO14) (fun _ => fun _ => []) numI_backs (fun _ => backs_rtn _
  ) (fun _ => stO) (fun r _ => rfl)
  ) (fun _ => stO) (fun r _ => rfl)
  ) (fun _ => stO) (fun r _ => rfl)
  ) (fun _ => stO) (fun r _ => rfl)
  ) (fun _ => stO) (fun r _ => rfl)
  ) (fun _ => stO) (fun r _ => rfl)
  ) (fun _ => stO) (fun r _ => rfl)
  ) (fun _ => stO) (fun r _ => rfl)
  ) (fun _ => stO) (fun r _ => rfl)
  ) (fun _ => stO) (fun r _ => rfl)
  ) (fun _ => stO) (fun r _ => rfl)
  ) (fun _ => stO) (fun r _ => rfl)
  ) (fun _ => stO) (fun r _ => rfl)
  ) (fun _ => stO) (fun r _ => rfl)
  ) (fun _ => stO) (fun r _ => rfl)
end Go.Proofs.YtjjppmbojcgdgaaGreatDoor

namespace Go.Proofs.YtjjppmbojcgdgaaGreatDoor
open Go Go.Abs
set_option linter.unusedVariables false
set_option linter.unusedSimpArgs false
def inB (n lo hi : Int) : Bool := decide (lo ≤ n ∧ n ≤ hi)
def modeB (n : Int) : Bool := decide (0 ≤ n ∧ n ≤ 6)
def pvalF (p : TPrec) : Bool :=
  if modeB p.mode && inB p.minInt 0 100 && inB p.min 0 100 then
    (if p.kind = 0 then inB p.max p.min 100 else if p.kind = 1 then decide (1 ≤ p.min) && inB p.max p.min 100
     else if p.kind = 2 then !(normD p.inc).neg && inB (normD p.inc).digits.length 1 9 && inB (normD p.inc).exp (-100) 100 else false)
  else false
def lettersF (s : List UInt8) : Bool := decide (s.length = 3) && s.all fun b => decide (65 ≤ b.toNat ∧ b.toNat ≤ 90)
def monyB (o : TOpt) : Bool := decide (o.style = 2 ∨ o.style = 3 ∨ o.style = 4)
def kindsB (o : TOpt) : Bool := decide (0 ≤ o.style ∧ o.style ≤ 5) && decide (0 ≤ o.compact ∧ o.compact ≤ 2) && decide (0 ≤ o.sym ∧ o.sym ≤ 2) && modeB o.mode
def shorterB (o : TOpt) : Bool := if o.compact = 1 then decide (o.style = 0 ∨ o.style = 2) else if o.compact = 2 then decide (o.style = 0) else true
def digitsB (o : TOpt) : Bool := !o.own || (pvalF o.prec && decide (o.compact = 0 ∨ o.prec.kind ≠ 2))
def namedB (there : Bool) (o : TOpt) : Bool :=
  if monyB o then lettersF o.code && decide (o.unit = []) else decide (o.code = []) && !o.cash && (decide (o.style = 5) && there || decide (o.style ≠ 5) && decide (o.unit = []))
def chkO (there : Bool) (o : TOpt) : Bool := kindsB o && shorterB o && digitsB o && namedB there o && !(decide (o.sym ≠ 0 ∧ o.style ≠ 2 ∧ o.style ≠ 3))
def fitsO (there : Bool) (o : TOpt) : Bool :=
  if o.style < 0 ∨ 5 < o.style ∨ o.compact < 0 ∨ 2 < o.compact ∨ o.sym < 0 ∨ 2 < o.sym ∨ o.mode < 0 ∨ 6 < o.mode then false
  else if (o.compact = 1 ∧ o.style ≠ 0 ∧ o.style ≠ 2) ∨ (o.compact = 2 ∧ o.style ≠ 0) then false
  else if o.own = true ∧ (pvalF o.prec = false ∨ (o.compact ≠ 0 ∧ o.prec.kind = 2)) then false
  else if monyB o ≠ lettersF o.code ∨ (monyB o = false ∧ (o.code ≠ [] ∨ o.cash = true)) then false
  else if (o.style = 5 ∧ there = false) ∨ (o.style ≠ 5 ∧ o.unit ≠ []) then false
  else decide (o.sym = 0 ∨ o.style = 2 ∨ o.style = 3)
theorem fits_chk (there : Bool) (o : TOpt) : fitsO there o = chkO there o := by
  have hL : lettersF o.code = true → o.code ≠ [] := fun h h2 => by rw [h2] at h; cases h
  have hL2 : o.code = [] → lettersF o.code = false := fun h => by rw [h]; rfl
  unfold fitsO chkO kindsB shorterB digitsB namedB modeB
  have hm : monyB o = true ↔ (o.style = 2 ∨ o.style = 3 ∨ o.style = 4) := by simp [monyB]
  generalize pvalF o.prec = v
  generalize lettersF o.code = L at *
  have ec : ∃ c : Prop, (o.code = [] ↔ c) := ⟨_, Iff.rfl⟩
  by_cases k1 : o.style < 0 ∨ 5 < o.style ∨ o.compact < 0 ∨ 2 < o.compact ∨ o.sym < 0 ∨ 2 < o.sym ∨ o.mode < 0 ∨ 6 < o.mode
  · rw [if_pos k1]
    symm
    rw [Bool.eq_false_iff]
    intro h
    simp only [Bool.and_eq_true, decide_eq_true_eq] at h
    omega
  rw [if_neg k1]
  have k1' : (decide (0 ≤ o.style ∧ o.style ≤ 5) && decide (0 ≤ o.compact ∧ o.compact ≤ 2) && decide (0 ≤ o.sym ∧ o.sym ≤ 2) && decide (0 ≤ o.mode ∧ o.mode ≤ 6)) = true := by
    simp only [Bool.and_eq_true, decide_eq_true_eq]; omega
  rw [k1', Bool.true_and]
  by_cases k2 : (o.compact = 1 ∧ o.style ≠ 0 ∧ o.style ≠ 2) ∨ (o.compact = 2 ∧ o.style ≠ 0)
  · rw [if_pos k2]
    have : (if o.compact = 1 then decide (o.style = 0 ∨ o.style = 2) else if o.compact = 2 then decide (o.style = 0) else true) = false := by
      split
      · rw [decide_eq_false_iff_not]; omega
      · rw [if_pos (by omega), decide_eq_false_iff_not]; omega
    rw [this]; rfl
  rw [if_neg k2]
  have k2' : (if o.compact = 1 then decide (o.style = 0 ∨ o.style = 2) else if o.compact = 2 then decide (o.style = 0) else true) = true := by
    split
    · rw [decide_eq_true_eq]; omega
    · split
      · rw [decide_eq_true_eq]; omega
      · rfl
  rw [k2', Bool.true_and]
  by_cases k3 : o.own = true ∧ (v = false ∨ (o.compact ≠ 0 ∧ o.prec.kind = 2))
  · rw [if_pos k3, k3.1]
    rcases k3.2 with h | ⟨h, h'⟩
    · rw [h]; rfl
    · rw [show decide (o.compact = 0 ∨ o.prec.kind ≠ 2) = false from by rw [decide_eq_false_iff_not]; omega]; simp
  rw [if_neg k3]
  have k3' : (!o.own || (v && decide (o.compact = 0 ∨ o.prec.kind ≠ 2))) = true := by
    cases ho : o.own
    · rfl
    · simp only [ho, true_and, not_or, Bool.not_eq_false, not_and] at k3
      rw [k3.1, show decide (o.compact = 0 ∨ o.prec.kind ≠ 2) = true from by rw [decide_eq_true_eq]; omega]; rfl
  rw [k3', Bool.true_and]
  cases hM : monyB o
  · have hns : ¬ (o.style = 2 ∨ o.style = 3 ∨ o.style = 4) := fun h => by rw [hm.2 h] at hM; cases hM
    by_cases hc : o.code = []
    · rw [hL2 hc]
      cases hk : o.cash
      · by_cases hs : o.style = 5
        · cases there <;> simp [hc, hs]
        · by_cases hu : o.unit = [] <;> simp [hc, hs, hu] <;> (try omega)
      · simp [hc]
    · cases L <;> simp [hc]
  · have hs := hm.1 hM
    have h5 : o.style ≠ 5 := by omega
    cases hl : L
    · simp
    · have hcn := hL hl
      by_cases hu : o.unit = []
      · simp [h5, hu] <;> (try omega)
      · simp [h5, hu]
end Go.Proofs.YtjjppmbojcgdgaaGreatDoor

namespace Go.Proofs.YtjjppmbojcgdgaaGreatDoor
end Go.Proofs.YtjjppmbojcgdgaaGreatDoor
