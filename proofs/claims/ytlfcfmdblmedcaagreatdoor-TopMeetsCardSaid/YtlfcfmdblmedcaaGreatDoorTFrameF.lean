/- What octets are as a frame. Written by fgetgen.py. -/
import Derived.Test.YtlfcfmdblmedcaaGreatDoorTCtrlGet
namespace Go.Proofs.YtlfcfmdblmedcaaGreatDoor.Mine
open Go.RowKit Go.Proofs.YtlfcfmdblmedcaaGreatDoorW.PrintWords

structure FR where
  sapi : Int
  tei : Int
  cmd : Bool
  kind : Int
  pf : Bool
  ns : Int
  nr : Int
  info : List Int
  err : Int
def FR.no (e : Int) : FR := ⟨0, 0, false, 0, false, 0, 0, [], e⟩
/-- The frame that octets are which a terminal sent, and the error. -/
def frameF (l : List Int) : FR :=
  if (checkL l).2 ≠ 0 then FR.no 6
  else if (addrF (checkL l).1).2.2.2 ≠ 0 then FR.no (addrF (checkL l).1).2.2.2
  else if (ctrlF ((checkL l).1.drop 2)).err ≠ 0 then FR.no (ctrlF ((checkL l).1.drop 2)).err
  else if mayF (ctrlF ((checkL l).1.drop 2)).kind (!(addrF (checkL l).1).2.2.1) = false then FR.no 4
  else if carriesF (ctrlF ((checkL l).1.drop 2)).kind (((checkL l).1.drop (2 + (ctrlF ((checkL l).1.drop 2)).n.toNat)).length : Int) = false then FR.no 5
  else ⟨(addrF (checkL l).1).1, (addrF (checkL l).1).2.1, !(addrF (checkL l).1).2.2.1, (ctrlF ((checkL l).1.drop 2)).kind, (ctrlF ((checkL l).1.drop 2)).pf, (ctrlF ((checkL l).1.drop 2)).ns, (ctrlF ((checkL l).1.drop 2)).nr, (checkL l).1.drop (2 + (ctrlF ((checkL l).1.drop 2)).n.toNat), 0⟩
end Go.Proofs.YtlfcfmdblmedcaaGreatDoor.Mine
