/- op.kinds, roll.asks, as values of the machine. -/
import Derived.Test.YtfnglmepfjaimaaGreatDoorGO
namespace Go.Proofs.YtfnglmepfjaimaaGreatDoor
open Go.RowKit
/-- op.kinds, roll.asks. -/
def kinds : List G := [0, 2064, 32793, 21, 16, 12, 480, 640, 512, 31744, 8704, 8705, 512, 33299].map gI
def fnG (n : Nat) : G := .clo (.func n) [] []
def asks : List G := [.lit .nilFunc, .lit .nilFunc, fnG 514, fnG 516, .lit .nilFunc, fnG 517, fnG 518, .lit .nilFunc, fnG 519, fnG 520, fnG 522, fnG 523, fnG 522, fnG 524]
def glc : List (Nat × List G) := [(0, kinds), (1, asks)]
end Go.Proofs.YtfnglmepfjaimaaGreatDoor
