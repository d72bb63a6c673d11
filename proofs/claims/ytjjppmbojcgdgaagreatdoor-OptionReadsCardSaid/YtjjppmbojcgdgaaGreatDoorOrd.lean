/- Whatever bytes: options whose bytes they are, or none. -/
import Derived.Test.YtjjppmbojcgdgaaGreatDoorOch
import Derived.Test.YtjjppmbojcgdgaaGreatDoorJ15
set_option linter.unusedVariables false
set_option linter.unusedSimpArgs false
set_option maxRecDepth 100000
set_option maxHeartbeats 4000000
namespace Go.Opn
open Go Go.Abs
theorem Sized.of_each {H : Type} {P : Program} {ts : List TypeId} {ds : List (DataW H)} (h : (DataW.weightsEach P ts ds).all (· ≤ reachBytes) = true) {i : Nat} {t : TypeId} {d : DataW H} (ht : ts[i]? = some t) (hd : ds[i]? = some d) : Sized P t d := fun w hw => by
 have := List.all_eq_true.1 h w (weightsEach_mem ht hd hw)
 simpa using this
end Go.Opn
namespace Go.Proofs.YtjjppmbojcgdgaaGreatDoor
open Go Go.Abs
attribute [local irreducible] DrawW CallW RetW AC Does CmpW
variable {G : Globs} {m : Int}

theorem inc_fst (r : Rd) : (incRd r).1 = (parD (textRd r).1).1 := by unfold incRd; split <;> rfl
/-- Options that were read are those whose bytes stand there. -/
theorem dec_enc22 {s : List UInt8} (hb : (decO ⟨s, 0, false⟩).2.bad = false) (hp : (decO ⟨s, 0, false⟩).2.p = (decO ⟨s, 0, false⟩).2.s.length) : s = encO (decO ⟨s, 0, false⟩).1 := by
 obtain ⟨u, h1, ⟨_, _, h3⟩, _⟩ := decO_backs ⟨s, 0, false⟩ s ⟨rfl, Nat.zero_le _, rfl⟩ hb
 rw [hp, List.drop_length] at h3
 subst h3
 rw [List.append_nil] at h1
 exact h1
theorem dec_small {s : List UInt8} (hl : s.length ≤ 200) (he : s = encO (decO ⟨s, 0, false⟩).1) : (decO ⟨s, 0, false⟩).1.small := by
 have hN : ∀ r, ((numRd r).1 : Int) < 9223372036854775808 := fun r => by have := numRd_lt r; omega
 have hlen := congrArg List.length he
 unfold encO at hlen
 simp only [List.length_append, textW] at hlen
 refine ⟨hN _, hN _, by omega, by omega, hN _, hN _, hN _, hN _, hN _, ?_, hN _, hN _⟩
 show ((incRd _).1).digits.length ≤ 1000
 rw [inc_fst]
 exact par_dig _
theorem OptionReads_does (s : List UInt8) : Does Tryz.prog (GP m) 9 [.str s] [] fun ae _ => ae = .ret (.bool true) := by
 refine Does.body tab Tryz.func9 rfl rfl ?_
 refine gos ?_
 refine CallW.pure head22_does rfl rfl ?_
 refine gos ?_
 by_cases hl : 200 < s.length
 · refine CmpW.t (by simp; omega) ?_
   refine gos ?_
   refine RetW.plain (by simp) ?_
   rfl
 refine CmpW.f (by simp; omega) ?_
 refine gos ?_
 have dD := ODecode_does (m := m) s (by omega)
 by_cases hc : (decO ⟨s, 0, false⟩).2.bad = false ∧ (decO ⟨s, 0, false⟩).2.p = (decO ⟨s, 0, false⟩).2.s.length
 · have he := dec_enc22 hc.1 hc.2
   have hsm := dec_small (by omega) he
   have dE := OEncode_does (m := m) _ hsm
   rw [← he] at dE
   have dD2 : Does Tryz.prog (GP m) 47 [.str s] [] fun ae _ => ae = .ret (.tuple [.agg (decO ⟨s, 0, false⟩).1.cells, .int .i64 0]) := by
    have h := dD
    unfold resO at h
    rw [if_pos hc] at h
    exact h
   clear dD he hsm
   generalize (decO ⟨s, 0, false⟩).1 = o at *
   refine CallW.pure dD2 rfl rfl ?_
   refine gos ?_
   intro v1
   refine gos ?_
   refine CallW.pure dE rfl rfl ?_
   refine gos ?_
   refine CmpW.t (by simp) ?_
   refine gos ?_
   refine RetW.plain (by simp) ?_
   rfl
 · have dD2 : Does Tryz.prog (GP m) 47 [.str s] [] fun ae _ => ae = .ret (.tuple [.agg zC, .int .i64 1]) := by
    have h := dD
    unfold resO at h
    rw [if_neg hc] at h
    exact h
   clear dD hc
   refine CallW.pure dD2 rfl rfl ?_
   refine gos ?_
   intro v1
   refine And.intro rfl ?_
   refine And.intro rfl ?_
   refine And.intro rfl ?_
   refine Exists.intro _ (And.intro rfl ?_)
   refine And.intro rfl ?_
   refine CmpW.t rfl ?_
   refine And.intro (fun _ => ?_) (fun h => Bool.noConfusion h)
   refine And.intro rfl ?_
   refine CmpW.t rfl ?_
   refine And.intro rfl ?_
   refine Exists.intro _ (And.intro rfl ?_)
   refine And.intro rfl ?_
   refine eqZ _ ?_
   refine CmpW.t rfl ?_
   refine gos ?_
   refine RetW.plain (by simp) ?_
   rfl
theorem str_cells {P : Program} {W : World} {base : Nat} {r : Reach} {t : TypeId} {v : Value} (ht : P.underlying t = some .string) (h : Value.okWide P W r base t v) : v.cells.toList = [v] := by
 obtain ⟨s, rfl⟩ := Go.WideShapes.okWide_string ht h; rfl
theorem OptionReads_ok (m : Int) (s : List UInt8) (hs : s.length ≤ reachBytes) : Does Tryz.prog (GP m) 9 [.str s] [] fun ae _ => ae = .ret (.bool true) := OptionReads_does s
end Go.Proofs.YtjjppmbojcgdgaaGreatDoor
