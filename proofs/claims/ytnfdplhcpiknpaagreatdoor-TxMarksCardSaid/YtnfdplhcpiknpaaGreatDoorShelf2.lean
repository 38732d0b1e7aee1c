/-
  The shelf's contracts: the second name of the shelf.
-/
import Derived.Test.YtnfdplhcpiknpaaGreatDoorShelf
