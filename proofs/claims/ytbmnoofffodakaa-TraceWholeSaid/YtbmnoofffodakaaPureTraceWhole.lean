/- The law TraceWhole, in plain Lean: five proofs, computed. -/
import Derived.Test.YtbmnoofffodakaaTraceFew
import Derived.Test.YtbmnoofffodakaaTraceBits
import Derived.Test.YtbmnoofffodakaaQx10
namespace Go.Proofs.Ytbmnoofffodakaa.Pure
open Go.RowKit Go.Proofs.Ytbmnoofffodakaa.Q Go.Proofs.Ytbmnoofffodakaa.PT Go.Proofs.YtbmnoofffodakaaW.PrintWords Go.Proofs.YtbmnoofffodakaaW.PrintLast Go.Proofs.YtbmnoofffodakaaW.PrintMore

def all_1 : List (List Int) := [[-1], [1]]
theorem whole_1 : Ev (fun k => (ashlarlaw10_all.f k 1).bind fun t => ashlarlaw10_TraceWhole.l0 k 1 true t [] 0) true :=
  Ev.bind (Ev.of (fun k => ashlarlaw10_all.mono 1 k) (k := 300) (r := all_1) (by decide +kernel)) (Ev.of (fun k => ashlarlaw10_TraceWhole.mono_l k 1 true all_1 [] 0) (k := 600) (by decide +kernel))
def all_2 : List (List Int) := [[-1, -2], [1, -2], [-1, 2], [1, 2]]
theorem whole_2 : Ev (fun k => (ashlarlaw10_all.f k 2).bind fun t => ashlarlaw10_TraceWhole.l0 k 2 true t [] 1) true :=
  Ev.bind (Ev.of (fun k => ashlarlaw10_all.mono 2 k) (k := 300) (r := all_2) (by decide +kernel)) (Ev.of (fun k => ashlarlaw10_TraceWhole.mono_l k 2 true all_2 [] 1) (k := 600) (by decide +kernel))
def all_3 : List (List Int) := [[-1, -2, -3], [1, -2, -3], [-1, 2, -3], [1, 2, -3], [-1, -2, 3], [1, -2, 3], [-1, 2, 3], [1, 2, 3]]
theorem whole_3 : Ev (fun k => (ashlarlaw10_all.f k 3).bind fun t => ashlarlaw10_TraceWhole.l0 k 3 true t [] 2) true :=
  Ev.bind (Ev.of (fun k => ashlarlaw10_all.mono 3 k) (k := 300) (r := all_3) (by decide +kernel)) (Ev.of (fun k => ashlarlaw10_TraceWhole.mono_l k 3 true all_3 [] 2) (k := 600) (by decide +kernel))
def all_4 : List (List Int) := [[-1, -2, -3, -4], [1, -2, -3, -4], [-1, 2, -3, -4], [1, 2, -3, -4], [-1, -2, 3, -4], [1, -2, 3, -4], [-1, 2, 3, -4], [1, 2, 3, -4], [-1, -2, -3, 4], [1, -2, -3, 4], [-1, 2, -3, 4], [1, 2, -3, 4], [-1, -2, 3, 4], [1, -2, 3, 4], [-1, 2, 3, 4], [1, 2, 3, 4]]
theorem whole_4 : Ev (fun k => (ashlarlaw10_all.f k 4).bind fun t => ashlarlaw10_TraceWhole.l0 k 4 true t [] 3) true :=
  Ev.bind (Ev.of (fun k => ashlarlaw10_all.mono 4 k) (k := 300) (r := all_4) (by decide +kernel)) (Ev.of (fun k => ashlarlaw10_TraceWhole.mono_l k 4 true all_4 [] 3) (k := 600) (by decide +kernel))
def all_5 : List (List Int) := [[-1, -2, -3, -4, -5], [1, -2, -3, -4, -5], [-1, 2, -3, -4, -5], [1, 2, -3, -4, -5], [-1, -2, 3, -4, -5], [1, -2, 3, -4, -5], [-1, 2, 3, -4, -5], [1, 2, 3, -4, -5], [-1, -2, -3, 4, -5], [1, -2, -3, 4, -5], [-1, 2, -3, 4, -5], [1, 2, -3, 4, -5], [-1, -2, 3, 4, -5], [1, -2, 3, 4, -5], [-1, 2, 3, 4, -5], [1, 2, 3, 4, -5], [-1, -2, -3, -4, 5], [1, -2, -3, -4, 5], [-1, 2, -3, -4, 5], [1, 2, -3, -4, 5], [-1, -2, 3, -4, 5], [1, -2, 3, -4, 5], [-1, 2, 3, -4, 5], [1, 2, 3, -4, 5], [-1, -2, -3, 4, 5], [1, -2, -3, 4, 5], [-1, 2, -3, 4, 5], [1, 2, -3, 4, 5], [-1, -2, 3, 4, 5], [1, -2, 3, 4, 5], [-1, 2, 3, 4, 5], [1, 2, 3, 4, 5]]
theorem whole_5 : Ev (fun k => (ashlarlaw10_all.f k 5).bind fun t => ashlarlaw10_TraceWhole.l0 k 5 true t [] 4) true :=
  Ev.bind (Ev.of (fun k => ashlarlaw10_all.mono 5 k) (k := 300) (r := all_5) (by decide +kernel)) (Ev.of (fun k => ashlarlaw10_TraceWhole.mono_l k 5 true all_5 [] 4) (k := 600) (by decide +kernel))
theorem TraceWhole : ∀ (a0 : Int), (Lit.int .i64 a0).wf = true → ∃ k, ashlarlaw10_TraceWhole.f k a0 = some true := by
  intro a0 _
  have hb := bits_low a0
  obtain ⟨n, hn⟩ : ∃ n, wrap64 (1 + Int.tmod (Go.bits .and .i64 a0 65535) 5) = n := ⟨_, rfl⟩
  have h0 : 0 ≤ Int.tmod (Go.bits .and .i64 a0 65535) 5 := Int.tmod_nonneg _ hb.1
  have h1 : Int.tmod (Go.bits .and .i64 a0 65535) 5 < 5 := Int.tmod_lt_of_pos _ (by decide)
  have hr : n = 1 + Int.tmod (Go.bits .and .i64 a0 65535) 5 := by rw [← hn]; exact w64 (by omega) (by omega)
  refine Ev.rounds (g := fun k => ashlarlaw10_TraceWhole.f k a0) ?_
  unfold ashlarlaw10_TraceWhole.f
  rw [hn, w64 (n := n - 1) (by omega) (by omega)]
  refine Ev.bind shown_ok ?_
  have : n = 1 ∨ n = 2 ∨ n = 3 ∨ n = 4 ∨ n = 5 := by omega
  rcases this with e | e | e | e | e
  · rw [e]; exact whole_1
  · rw [e]; exact whole_2
  · rw [e]; exact whole_3
  · rw [e]; exact whole_4
  · rw [e]; exact whole_5
end Go.Proofs.Ytbmnoofffodakaa.Pure
