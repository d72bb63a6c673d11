/- One of the three locales. -/
import Derived.Test.YtjjppmbojcgdgaaGreatDoorJ30
import Derived.Test.YtjjppmbojcgdgaaGreatDoorJ21
import Derived.Test.YtjjppmbojcgdgaaGreatDoorJ32
import Derived.Test.YtjjppmbojcgdgaaGreatDoorJ29
set_option linter.unusedVariables false
set_option linter.unusedSimpArgs false
set_option maxRecDepth 100000
set_option maxHeartbeats 4000000

namespace Go.Proofs.YtjjppmbojcgdgaaGreatDoor
open Go Go.Abs
attribute [local irreducible] DrawW CallW RetW AC Does CmpW
variable {m : Int}
theorem own_does {G : Globs} (t : TTab) (hb : t.below = true) (hl : (encF t).length ≤ 65536) : Does Tryz.prog G 66 [.agg (tabC t)] [] fun ae _ => ae = .ret (.agg (tabC (decF (encF t)).1)) := by
  have dE := Encode_does (G := G) t hb hl
  have dD := TDecode_does (G := G) (encF t) (by omega)
  generalize (decF (encF t)).1 = o at *
  refine Does.body tab Tryz.func66 rfl rfl ?_
  refine gos ?_
  intro v0
  refine gos ?_
  intro v1
  refine gos ?_
  refine CallW.pure dE rfl rfl ?_
  refine gos ?_
  refine CallW.pure dD rfl rfl ?_
  refine gos ?_
  refine RetW.plain (by simp) ?_
  rfl
theorem LNew_does (t : TTab) (hf : t.fits) (hbel : checkF t = 0 → t.below = true) (henc : checkF t = 0 → (encF t).length ≤ 65536) : Does Tryz.prog (GL m) 30 [.agg (tabC t)] [] fun ae _ => ae = .ret (newF t) :=
  New_does' (fun t h1 h2 => own_does t h1 h2) t hf hbel henc
theorem Load_does (s : List UInt8) (hs : s.length < 4294967296) (hf : (decF s).2 = 0 → (decF s).1.fits ∧ (checkF (decF s).1 = 0 → (decF s).1.below = true ∧ (encF (decF s).1).length ≤ 65536)) :
    Does Tryz.prog (GL m) 31 [.str s] [] fun ae _ => ae = .ret (loadF s) := by
  have dD := TDecode_does (G := GL m) s hs
  refine Does.bodyA tab Tryz.func31 rfl rfl ?_
  refine AC.step tab ?_
  refine gos ?_
  refine AC.step tab ?_
  refine gos ?_
  refine CallW.pure dD rfl rfl ?_
  refine gos ?_
  intro v1
  refine gos ?_
  refine AC.step tab ?_
  refine gos ?_
  unfold loadF
  by_cases he : (decF s).2 = 0
  case neg =>
    rw [if_neg he]
    refine CmpW.t (by simpa using he) ?_
    refine gos ?_
    refine RetW.plain (by simp) ?_
    rfl
  rw [if_pos he]
  obtain ⟨h1, h2⟩ := hf he
  have dN := LNew_does (m := m) (decF s).1 h1 (fun h => (h2 h).1) (fun h => (h2 h).2)
  refine CmpW.f (by simpa using he) ?_
  clear dD h1 h2 hf
  generalize (decF s).1 = t at *
  refine gos ?_
  refine AC.go tab ?_
  refine gos ?_
  unfold newF at *
  by_cases hc : checkF t = 0
  · simp only [if_pos hc] at *
    refine CallW.pure dN rfl rfl ?_
    refine gos ?_
    refine RetW.plain (by simp) ?_
    rfl
  · simp only [if_neg hc] at *
    refine CallW.pure dN rfl rfl ?_
    refine gos ?_
    refine RetW.plain (by simp) ?_
    rfl
end Go.Proofs.YtjjppmbojcgdgaaGreatDoor

namespace Go.Proofs.YtjjppmbojcgdgaaGreatDoor
open Go Go.Abs
attribute [local irreducible] DrawW CallW RetW AC Does CmpW
variable {m : Int}
theorem ownB_0 : (decF (encF base0)).1 = base0 := by kernel_rfl
theorem ownB_1 : (decF (encF base1)).1 = base1 := by kernel_rfl
theorem ownB_2 : (decF (encF base2)).1 = base2 := by kernel_rfl
theorem ownB (n : Int) : (decF (encF (baseF n))).1 = baseF n := by
  rcases baseF_three n with h | h | h <;> rw [h]
  · exact ownB_0
  · exact ownB_1
  · exact ownB_2
def restB (n : Int) : List AV := (locC (baseF n) (baseF n)).drop (tabC (baseF n)).length
theorem locB (n : Int) : locC (baseF n) (baseF n) = tabC (baseF n) ++ restB n := by
  unfold restB locC
  simp only [List.append_assoc, List.drop_left]
theorem Base18_does (n : Int) : Does Tryz.prog (GL m) 16 [.int .i64 n] [] fun ae _ => ae = .ret (.fptr (tabC (baseF n) ++ restB n)) := by
  have h := LNew_does (m := m) (baseF n) (fitsB n) (fun _ => belB n) (fun _ => encB_le n)
  rw [newF, if_pos (checkB n), ownB, locB] at h
  have dB := Base_does (G := GL m) n
  generalize restB n = R at *
  generalize baseF n = t at *
  refine Does.bodyA tab Tryz.func16 rfl rfl ?_
  refine AC.step tab ?_
  refine gos ?_
  refine AC.step tab ?_
  refine gos ?_
  refine CallW.pure dB rfl rfl ?_
  refine gos ?_
  refine CallW.pure h rfl rfl ?_
  refine gos ?_
  refine AC.step tab ?_
  refine gos ?_
  refine AC.go tab ?_
  refine gos ?_
  refine RetW.plain (by simp) ?_
  rfl
end Go.Proofs.YtjjppmbojcgdgaaGreatDoor
