import Derived.Test.YtpfmojeigjmlfaaGreatDoorBase
namespace Go.Proofs.YtpfmojeigjmlfaaGreatDoor
open Go.RowKit

/-- A world that extends w. -/
structure ExtW (w : World) where
  v : World
  h : Ext w v
instance ExtW.some (w : World) : Nonempty (ExtW w) := ⟨⟨w, Ext.refl w⟩⟩

theorem ExtW.call {P : Program} {f : FuncId} {args : Array Value} {w : World} {x : ExtW w} {v : Value} (h : Calls P f args x.v fun e w' => e = .returned v ∧ Ext x.v w') :
    Calls P f args x.v fun e w'' => e = .returned v ∧ ∃ y : ExtW w, w'' = y.v := h.mono fun _ _ ⟨he, hw⟩ => ⟨he, ⟨_, x.h.trans hw⟩, rfl⟩
theorem ExtW.same {P : Program} {f : FuncId} {args : Array Value} {w : World} {x : ExtW w} {v : Value} (h : Calls P f args x.v fun e w' => e = .returned v ∧ x.v = w') :
    Calls P f args x.v fun e w'' => e = .returned v ∧ ∃ y : ExtW w, w'' = y.v := h.mono fun _ _ ⟨he, hw⟩ => ⟨he, x, hw.symm⟩

/-- A region that draws its order, whose operations read what was there, and whose calls extend the world and hand back a value that does not depend on it: one walk in the order of the text. -/
theorem wp_region_ext {P : Program} {id : Nat} {Q : Exit → Act → World → Prop} {a : Act} {w : World} {l : List Oper} (hm : P.follows .mixedOrders = true) (hB : Region.lexB .any l.toArray = true)
    (h : wpQuiet P l.toArray (fun w' => ∃ x : ExtW w, w' = x.v) (fun a' => ∀ w', (∃ x : ExtW w, w' = x.v) → Q .normal a' w') l a) : (Code.region id l.toArray true).wp P Q a w :=
  wp_region_quiet (C := fun w' => ∃ x : ExtW w, w' = x.v) hm hB ⟨⟨w.drew, (Ext.refl w).drew⟩, rfl⟩ (by simpa using h)
end Go.Proofs.YtpfmojeigjmlfaaGreatDoor
