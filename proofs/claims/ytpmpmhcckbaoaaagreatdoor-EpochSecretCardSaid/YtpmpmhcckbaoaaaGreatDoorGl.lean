/- op.kinds, roll.asks, as values of the machine. -/
import Derived.Test.YtpmpmhcckbaoaaaGreatDoorGO
namespace Go.Proofs.YtpmpmhcckbaoaaaGreatDoor
open Go.RowKit
/-- op.kinds, roll.asks. -/
def kinds : List G := [0, 2064, 32793, 21, 16, 12, 480, 640, 512, 31744, 8704, 8705, 512, 33299].map gI
def fnG (n : Nat) : G := .clo (.func n) [] []
def asks : List G := [.lit .nilFunc, .lit .nilFunc, fnG 393, fnG 395, .lit .nilFunc, fnG 396, fnG 397, .lit .nilFunc, fnG 398, fnG 399, fnG 401, fnG 402, fnG 401, fnG 403]
def glc : List (Nat × List G) := [(1, kinds), (0, asks)]
end Go.Proofs.YtpmpmhcckbaoaaaGreatDoor
