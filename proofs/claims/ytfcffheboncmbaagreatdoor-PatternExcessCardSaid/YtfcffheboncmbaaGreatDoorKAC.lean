/-
  Chapter 46: what is found is accepted, or refuses: contracts of 'Accepts' and 'Refuses' for proofs that hold; 'right' of the laws.
-/
import Derived.Test.YtfcffheboncmbaaGreatDoorKAA
import Derived.Test.YtfcffheboncmbaaGreatDoorKH
section
namespace Go.Proofs.YtfcffheboncmbaaGreatDoor
open Go Go.RowKit Go.Deep
namespace M
end M
namespace W
open M
attribute [local go_sem] bs_size bs_toList bs_get bs_extract bs_append bs_lit0 bs_lit1 lit1_bs
set_option maxHeartbeats 2000000
set_option maxRecDepth 20000
end W
end Go.Proofs.YtfcffheboncmbaaGreatDoor
end
