/-
  What build.node answers: the node of some parts.
-/
import Derived.Test.YtpiobilidhmedaaF6
namespace Go.Sl
open Go Go.RowKit
section
variable {W w : World} {A B C D E F G H : As}
theorem Sat.b2 (h : Sat W w (A * (B * (C * D)))) : Sat W w (C * (A * (B * D))) := h.of_eq (by rw [star_left_comm B C D, star_left_comm A C (B * D)])
theorem Sat.b3 (h : Sat W w (A * (B * (C * (D * E))))) : Sat W w (D * (A * (B * (C * E)))) := h.of_eq (by rw [star_left_comm C D E, star_left_comm B D, star_left_comm A D])
theorem Sat.b4 (h : Sat W w (A * (B * (C * (D * (E * F)))))) : Sat W w (E * (A * (B * (C * (D * F))))) := h.of_eq (by rw [star_left_comm D E F, star_left_comm C E, star_left_comm B E, star_left_comm A E])
theorem Sat.b5 (h : Sat W w (A * (B * (C * (D * (E * (F * G))))))) : Sat W w (F * (A * (B * (C * (D * (E * G)))))) := h.of_eq (by rw [star_left_comm E F G, star_left_comm D F, star_left_comm C F, star_left_comm B F, star_left_comm A F])
theorem Sat.b6 (h : Sat W w (A * (B * (C * (D * (E * (F * (G * H)))))))) : Sat W w (G * (A * (B * (C * (D * (E * (F * H))))))) := h.of_eq (by rw [star_left_comm F G H, star_left_comm E G, star_left_comm D G, star_left_comm C G, star_left_comm B G, star_left_comm A G])
end
end Go.Sl
namespace Go.Proofs.Ytpiobilidhmedaa
open Go.RowKit Go.Sl Go.Ct
set_option linter.unusedVariables false
set_option linter.unusedSimpArgs false
theorem alloc_size (w : World) (o : Obj) : (w.alloc o).heap.size = w.heap.size + 1 := by simp
theorem drew_size (w : World) : w.drew.heap.size = w.heap.size := rfl
/-- A part's cells. -/
def encP (x : En × Int) : List Value := [.int .i64 x.1.lo, .int .i64 x.1.e, .int .i64 x.1.h, .int .i64 x.2]
def nodeOf (ps : List (En × Int)) (inner : Bool) : Nd := ⟨inner, (ps.headD (⟨0, 0, 0⟩, 0)).1.lo, ps.map (·.1.e), ps.map (·.1.h), ps.map (·.2)⟩
end Go.Proofs.Ytpiobilidhmedaa
