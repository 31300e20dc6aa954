/- A part of the proof: the reference is safe, both packages write and read alike. Several texts in one; printed by slim28.py out of the texts of wip. -/
import Derived.Test.YtjmnolhkkpaodaaGreatDoorZ31
set_option linter.all false
namespace Go.Proofs.YtjmnolhkkpaodaaGreatDoor
open Go Go.Sx Go.Ty
set_option maxRecDepth 100000
def nhi (j : Nat) : Nat := [4,261,528,795,1062,1329,1596,1863,2130,2397,2664,2931,3198,3446,3673,3879,4064,4228,4371,4493,4594,4674,4733,4771,4778].getD j 0
def ownhi : List Nat := [4771,4733,4674,4594,4493,4371,4228,4064,3879,3673,3446,3198,2931,2664,2397,2130,1863,1596,1329,1062,795,528,261,4]
def pshi : List Nat := [4771,4733,4674,4594,4493,4371,4228,4064,3879,3673,3446,3198,2931,2664,2397,2130,1863,1596,1329,1062,795,528,261,4,1]
def ltshi : List (Nat × Nat) := [(4763, 3),(4725, 3),(4725, 3),(4666, 3),(4666, 3),(4586, 3),(4586, 3),(4485, 3),(4485, 3),(4363, 3),(4363, 3),(4220, 3),(4220, 3),(4056, 3),(4056, 3),(3871, 3),(3871, 3),(3665, 3),(3665, 3),(3438, 3),(3438, 3),(3195, 3),(3195, 3),(2928, 3),(2928, 3),(2661, 3),(2661, 3),(2394, 3),(2394, 3),(2127, 3),(2127, 3),(1860, 3),(1860, 3),(1593, 3),(1593, 3),(1326, 3),(1326, 3),(1059, 3),(1059, 3),(792, 3),(792, 3),(525, 3),(525, 3),(253, 3),(253, 3)]
def hi0 : St := { sl := [(6,rwI 3 0),(12,rwI 3 0),(11,rwI 2 1),(10,rwI 2 0),(9,rwP 81 1 0),(5,.one AC.nils),(4,.one AC.nils),(0,rwP 81 1 0),(1,rwI 2 0)],ids := [(3,⟨0,0,24⟩),(1,⟨0,0,0⟩),(2,⟨24,0,24⟩)],lts := ltshi.drop 45,mem := [],own := ownhi.drop 24,ps := pshi.drop 24,nid := 4,A := 1,K := 1 }
def hiT1 (j : Nat) : St := { sl := [(6,rwI 3 0),(12,rwI 3 0),(11,rwI 2 1),(10,rwI 2 0),(9,rwP 81 1 0),(4,.one AC.nils),(0,rwP 81 1 0),(1,rwI 2 0),(13,rwS 93 (267*j-276) 0),(14,rwI (267*j-276) 0),(15,rwI 3 0),(16,rwC .lt (267*j-276) 0 3 0),(17,rwP 81 1 0),(7,rwP 93 (267*j-273) 0),(19,rwP 81 1 0),(20,rwI (267*j-272) 0),(21,rwP 81 1 0),(22,rwI (267*j-271) 0),(23,rwI (267*j-270) 0),(34,rwS 93 (267*j-7) 0),(36,rwS 93 0 1),(37,rwS 93 (267*j-8) 0),(5,rwS 93 (267*j-9) 0),(32,rwI (267*j-10) 0),(33,rwI (267*j-11) 0),(8,rwI (267*j-12) 0),(24,rwI (267*j-13) 0),(25,rwE (267*j-14) 0 0 1),(26,rwE (267*j-15) 0 0 1),(31,rwE (267*j-16) 0 0 1)],ids := [((267*j-7),⟨0,0,23⟩),((267*j-8),⟨1,0,24⟩),((267*j-9),⟨(j),0,24⟩),((267*j-10),⟨0,0,12⟩),((267*j-11),⟨-1,0,11⟩),((267*j-12),⟨-1,0,12⟩),((267*j-13),⟨-1,0,12⟩),((267*j-14),⟨0,0,1⟩),((267*j-15),⟨0,0,1⟩),((267*j-16),⟨0,0,1⟩),(1,⟨0,0,0⟩),(2,⟨24,0,24⟩),((267*j-276),⟨(j-1),0,23⟩),((267*j-273),⟨0,0,0⟩),((267*j-272),⟨0,0,3⟩),((267*j-271),⟨0,0,4⟩),((267*j-270),⟨0,0,12⟩),(3,⟨(j),0,24⟩)],lts := ltshi.drop ((47-2*j)),mem := [((267*j-273),93,[aB,aB,aB,aB,aB,aB,aB,aB,rw8,rw8])],own := ownhi.drop ((24-1*j)),ps := pshi.drop ((24-1*j)),nid := (267*j-6),A := 1,K := (14*j+1) }
def hiT2 (j : Nat) : St := { sl := [(1,rwI 2 0),(0,rwP 81 1 0),(4,.one AC.nils),(9,rwP 81 1 0),(10,rwI 2 0),(11,rwI 2 1),(12,rwI 3 0),(6,rwI 3 0),(13,rwS 93 (267*j-276) 0),(14,rwI (267*j-276) 0),(15,rwI 3 0),(16,rwC .lt (267*j-276) 0 3 0),(17,rwP 81 1 0),(7,rwP 93 (267*j-273) 0),(19,rwP 81 1 0),(20,rwI (267*j-272) 0),(21,rwP 81 1 0),(22,rwI (267*j-271) 0),(23,rwI (267*j-270) 0),(34,rwS 93 (267*j-7) 0),(36,rwS 93 0 1),(37,rwS 93 (267*j-8) 0),(5,rwS 93 (267*j-9) 0),(32,rwI (267*j-10) 0),(33,rwI (267*j-11) 0),(8,rwI (267*j-12) 0),(24,rwI (267*j-13) 0),(25,rwE (267*j-14) 0 0 1),(26,rwE (267*j-15) 0 0 1),(31,rwE (267*j-16) 0 0 1)],ids := [((267*j-7),⟨0,0,23⟩),((267*j-8),⟨1,0,24⟩),((267*j-9),⟨(j),0,24⟩),((267*j-10),⟨0,0,12⟩),((267*j-11),⟨-1,0,11⟩),((267*j-12),⟨-1,0,12⟩),((267*j-13),⟨-1,0,12⟩),((267*j-14),⟨0,0,1⟩),((267*j-15),⟨0,0,1⟩),((267*j-16),⟨0,0,1⟩),(2,⟨24,0,24⟩),(1,⟨0,0,0⟩),((267*j-276),⟨(j-1),0,23⟩),((267*j-273),⟨0,0,0⟩),((267*j-272),⟨0,0,3⟩),((267*j-271),⟨0,0,4⟩),((267*j-270),⟨0,0,12⟩),(3,⟨(j),0,24⟩)],lts := ltshi.drop ((47-2*j)),mem := [((267*j-273),93,[aB,aB,aB,aB,aB,aB,aB,aB,rw8,rw8])],own := ownhi.drop ((24-1*j)),ps := pshi.drop ((24-1*j)),nid := (267*j-6),A := 1,K := (14*j+1) }
def hi1 : St := { sl := [(31,rwE 260 0 0 1),(26,rwE 259 0 0 1),(25,rwE 258 0 0 1),(24,rwI 257 0),(8,rwI 256 0),(33,rwI 255 0),(32,rwI 254 0),(5,rwS 93 253 0),(37,rwS 93 252 0),(36,rwS 93 0 1),(34,rwS 93 251 0),(23,rwI 7 0),(22,rwI 6 0),(21,rwP 81 1 0),(20,rwI 5 0),(19,rwP 81 1 0),(7,rwP 93 4 0),(17,rwP 81 1 0),(16,rwC .lt 0 0 3 0),(15,rwI 3 0),(14,rwI 0 0),(13,.one AC.nils),(6,rwI 3 0),(12,rwI 3 0),(11,rwI 2 1),(10,rwI 2 0),(9,rwP 81 1 0),(4,.one AC.nils),(0,rwP 81 1 0),(1,rwI 2 0)],ids := [(260,⟨0,0,1⟩),(259,⟨0,0,1⟩),(258,⟨0,0,1⟩),(257,⟨-1,0,11⟩),(256,⟨-1,0,11⟩),(255,⟨-1,0,11⟩),(254,⟨0,0,12⟩),(253,⟨1,0,13⟩),(252,⟨1,0,13⟩),(251,⟨0,0,12⟩),(3,⟨1,0,24⟩),(7,⟨0,0,12⟩),(6,⟨0,0,4⟩),(5,⟨0,0,3⟩),(4,⟨0,0,0⟩),(1,⟨0,0,0⟩),(2,⟨24,0,24⟩)],lts := ltshi.drop 45,mem := [(4,93,[aB,aB,aB,aB,aB,aB,aB,aB,rw8,rw8])],own := ownhi.drop 23,ps := pshi.drop 23,nid := 261,A := 1,K := 15 }
def hiT4 (j : Nat) : St := { sl := [(31,rwE (nhi j-1) 0 0 1),(26,rwE (nhi j-2) 0 0 1),(25,rwE (nhi j-3) 0 0 1),(24,rwI (nhi j-4) 0),(8,rwI (nhi j-5) 0),(33,rwI (nhi j-6) 0),(32,rwI (nhi j-7) 0),(5,rwS 93 (nhi j-8) 0),(37,rwS 93 (nhi j-9) 0),(36,rwS 93 0 1),(34,rwS 93 (nhi j-10) 0),(23,rwI (nhi (j-1)+3) 0),(22,rwI (nhi (j-1)+2) 0),(21,rwP 81 1 0),(20,rwI (nhi (j-1)+1) 0),(19,rwP 81 1 0),(7,rwP 93 (nhi (j-1)) 0),(17,rwP 81 1 0),(16,rwC .lt (nhi (j-1)-8) 0 3 0),(15,rwI 3 0),(14,rwI (nhi (j-1)-8) 0),(13,rwS 93 (nhi (j-1)-8) 0),(1,rwI 2 0),(0,rwP 81 1 0),(4,.one AC.nils),(9,rwP 81 1 0),(10,rwI 2 0),(11,rwI 2 1),(12,rwI 3 0),(6,rwI 3 0)],ids := [((nhi j-1),⟨0,0,1⟩),((nhi j-2),⟨0,0,1⟩),((nhi j-3),⟨0,0,1⟩),((nhi j-4),⟨-1,0,12⟩),((nhi j-5),⟨-1,0,12⟩),((nhi j-6),⟨-1,0,11⟩),((nhi j-7),⟨0,0,12⟩),((nhi j-8),⟨(j),0,24⟩),((nhi j-9),⟨1,0,24⟩),((nhi j-10),⟨0,0,23⟩),((nhi (j-1)+3),⟨0,0,12⟩),(3,⟨(j),0,24⟩),((nhi (j-1)+2),⟨0,0,4⟩),((nhi (j-1)+1),⟨0,0,3⟩),((nhi (j-1)),⟨0,0,0⟩),((nhi (j-1)-8),⟨(j-1),0,23⟩),(2,⟨24,0,24⟩),(1,⟨0,0,0⟩)],lts := ltshi.drop ((47-2*j)),mem := [((nhi (j-1)),93,[aB,aB,aB,aB,aB,aB,aB,aB,rw8,rw8])],own := ownhi.drop ((24-1*j)),ps := pshi.drop ((24-1*j)),nid := (nhi j),A := 1,K := (14*j+1) }
def hi2 : St := { sl := [(1,rwI 2 0),(0,rwP 81 1 0),(4,.one AC.nils),(9,rwP 81 1 0),(10,rwI 2 0),(11,rwI 2 1),(12,rwI 3 0),(6,rwI 3 0),(13,rwS 93 253 0),(14,rwI 253 0),(15,rwI 3 0),(16,rwC .lt 253 0 3 0),(17,rwP 81 1 0),(7,rwP 93 261 0),(19,rwP 81 1 0),(20,rwI 262 0),(21,rwP 81 1 0),(22,rwI 263 0),(23,rwI 264 0),(34,rwS 93 527 0),(36,rwS 93 0 1),(37,rwS 93 526 0),(5,rwS 93 525 0),(32,rwI 524 0),(33,rwI 523 0),(8,rwI 522 0),(24,rwI 521 0),(25,rwE 520 0 0 1),(26,rwE 519 0 0 1),(31,rwE 518 0 0 1)],ids := [(527,⟨0,0,23⟩),(526,⟨1,0,24⟩),(525,⟨2,0,24⟩),(524,⟨0,0,12⟩),(523,⟨-1,0,11⟩),(522,⟨-1,0,12⟩),(521,⟨-1,0,12⟩),(520,⟨0,0,1⟩),(519,⟨0,0,1⟩),(518,⟨0,0,1⟩),(2,⟨24,0,24⟩),(1,⟨0,0,0⟩),(253,⟨1,0,13⟩),(261,⟨0,0,0⟩),(262,⟨0,0,3⟩),(263,⟨0,0,4⟩),(264,⟨0,0,12⟩),(3,⟨2,0,24⟩)],lts := ltshi.drop 43,mem := [(261,93,[aB,aB,aB,aB,aB,aB,aB,aB,rw8,rw8])],own := ownhi.drop 22,ps := pshi.drop 22,nid := 528,A := 1,K := 29 }
def hi13 : St := { sl := [(31,rwE 3445 0 0 1),(26,rwE 3444 0 0 1),(25,rwE 3443 0 0 1),(24,rwI 3442 0),(8,rwI 3441 0),(33,rwI 3440 0),(32,rwI 3439 0),(5,rwS 93 3438 0),(37,rwS 93 3437 0),(36,rwS 93 0 1),(34,rwS 93 3436 0),(23,rwI 3201 0),(22,rwI 3200 0),(21,rwP 81 1 0),(20,rwI 3199 0),(19,rwP 81 1 0),(7,rwP 93 3198 0),(17,rwP 81 1 0),(16,rwC .lt 3195 0 3 0),(15,rwI 3 0),(14,rwI 3195 0),(13,rwS 93 3195 0),(1,rwI 2 0),(0,rwP 81 1 0),(4,.one AC.nils),(9,rwP 81 1 0),(10,rwI 2 0),(11,rwI 2 1),(12,rwI 3 0),(6,rwI 3 0)],ids := [(3445,⟨0,0,1⟩),(3444,⟨0,0,1⟩),(3443,⟨0,0,1⟩),(3442,⟨-1,0,12⟩),(3441,⟨-1,0,12⟩),(3440,⟨-1,0,11⟩),(3439,⟨0,0,12⟩),(3438,⟨13,0,24⟩),(3437,⟨1,0,24⟩),(3436,⟨0,0,23⟩),(3201,⟨0,0,12⟩),(3,⟨13,0,24⟩),(3200,⟨0,0,4⟩),(3199,⟨0,0,3⟩),(3198,⟨0,0,0⟩),(3195,⟨12,0,23⟩),(2,⟨24,0,24⟩),(1,⟨0,0,0⟩)],lts := ltshi.drop 21,mem := [(3198,93,[aB,aB,aB,aB,aB,aB,aB,aB,rw8,rw8])],own := ownhi.drop 11,ps := pshi.drop 11,nid := 3446,A := 1,K := 183 }
def hi24 : St := { sl := [(6,rwI 3 0),(12,rwI 3 0),(11,rwI 2 1),(10,rwI 2 0),(9,rwP 81 1 0),(4,.one AC.nils),(0,rwP 81 1 0),(1,rwI 2 0),(13,rwS 93 4763 0),(14,rwI 4763 0),(15,rwI 3 0),(16,rwC .lt 4763 0 3 0),(17,rwP 81 1 0),(7,rwP 93 4771 0),(19,rwP 81 1 0),(20,rwI 4772 0),(21,rwP 81 1 0),(22,rwI 4773 0),(23,rwI 4774 0),(34,rwS 93 4763 0),(36,rwS 93 0 1),(37,rwS 93 4775 0),(5,rwS 93 4775 0),(32,rwI 4774 0),(33,rwI 4774 (-1)),(8,rwI 4774 (-1)),(24,rwI 4774 (-1)),(25,rwC .le 0 0 4774 (-1)),(26,rwE 4777 0 0 1),(31,rwE 4776 0 0 1)],ids := [(4777,⟨0,0,1⟩),(4776,⟨0,0,1⟩),(1,⟨0,0,0⟩),(2,⟨24,0,24⟩),(4763,⟨23,0,23⟩),(3,⟨24,0,24⟩),(4771,⟨0,0,0⟩),(4772,⟨0,0,3⟩),(4773,⟨0,0,4⟩),(4775,⟨24,0,24⟩),(4774,⟨0,0,12⟩)],lts := ltshi.drop 0,mem := [(4771,93,[aB,aB,aB,aB,aB,aB,aB,aB,rw8,rw8])],own := ownhi.drop 0,ps := pshi.drop 0,nid := 4778,A := 1,K := 337 }
def hi3 : St := hiT1 3
def hi4 : St := hiT2 4
def hi5 : St := hiT1 5
def hi6 : St := hiT2 6
def hi7 : St := hiT1 7
def hi8 : St := hiT2 8
def hi9 : St := hiT1 9
def hi10 : St := hiT2 10
def hi11 : St := hiT1 11
def hi12 : St := hiT2 12
def hi14 : St := hiT4 14
def hi15 : St := hiT4 15
def hi16 : St := hiT4 16
def hi17 : St := hiT4 17
def hi18 : St := hiT4 18
def hi19 : St := hiT4 19
def hi20 : St := hiT4 20
def hi21 : St := hiT4 21
def hi22 : St := hiT4 22
def hi23 : St := hiT4 23
def xi0 : Rs := rwX hi0 [(16,rwC .lt 0 0 3 0),(15,rwI 3 0),(14,rwI 0 0),(13,.one AC.nils)] [(3,⟨0,0,0⟩)]
def xi1 : Rs := rwX hi1 [(16,rwC .lt 253 0 3 0),(15,rwI 3 0),(14,rwI 253 0),(13,rwS 93 253 0)] [(3,⟨1,0,13⟩)]
def xi2 : Rs := rwX hi2 [(16,rwC .lt 525 0 3 0),(15,rwI 3 0),(14,rwI 525 0),(13,rwS 93 525 0)] []
def xi3 : Rs := rwX hi3 [(16,rwC .lt 792 0 3 0),(15,rwI 3 0),(14,rwI 792 0),(13,rwS 93 792 0)] []
def xi4 : Rs := rwX hi4 [(16,rwC .lt 1059 0 3 0),(15,rwI 3 0),(14,rwI 1059 0),(13,rwS 93 1059 0)] []
def xi5 : Rs := rwX hi5 [(16,rwC .lt 1326 0 3 0),(15,rwI 3 0),(14,rwI 1326 0),(13,rwS 93 1326 0)] []
def xi6 : Rs := rwX hi6 [(16,rwC .lt 1593 0 3 0),(15,rwI 3 0),(14,rwI 1593 0),(13,rwS 93 1593 0)] []
def xi7 : Rs := rwX hi7 [(16,rwC .lt 1860 0 3 0),(15,rwI 3 0),(14,rwI 1860 0),(13,rwS 93 1860 0)] []
def xi8 : Rs := rwX hi8 [(16,rwC .lt 2127 0 3 0),(15,rwI 3 0),(14,rwI 2127 0),(13,rwS 93 2127 0)] []
def xi9 : Rs := rwX hi9 [(16,rwC .lt 2394 0 3 0),(15,rwI 3 0),(14,rwI 2394 0),(13,rwS 93 2394 0)] []
def xi10 : Rs := rwX hi10 [(16,rwC .lt 2661 0 3 0),(15,rwI 3 0),(14,rwI 2661 0),(13,rwS 93 2661 0)] []
def xi11 : Rs := rwX hi11 [(16,rwC .lt 2928 0 3 0),(15,rwI 3 0),(14,rwI 2928 0),(13,rwS 93 2928 0)] []
def xi12 : Rs := rwX hi12 [(16,rwC .lt 3195 0 3 0),(15,rwI 3 0),(14,rwI 3195 0),(13,rwS 93 3195 0)] []
def xi13 : Rs := rwX hi13 [(16,rwC .lt 3438 0 3 0),(15,rwI 3 0),(14,rwI 3438 0),(13,rwS 93 3438 0)] []
def xi14 : Rs := rwX hi14 [(16,rwC .lt 3665 0 3 0),(15,rwI 3 0),(14,rwI 3665 0),(13,rwS 93 3665 0)] []
def xi15 : Rs := rwX hi15 [(16,rwC .lt 3871 0 3 0),(15,rwI 3 0),(14,rwI 3871 0),(13,rwS 93 3871 0)] []
def xi16 : Rs := rwX hi16 [(16,rwC .lt 4056 0 3 0),(15,rwI 3 0),(14,rwI 4056 0),(13,rwS 93 4056 0)] []
def xi17 : Rs := rwX hi17 [(16,rwC .lt 4220 0 3 0),(15,rwI 3 0),(14,rwI 4220 0),(13,rwS 93 4220 0)] []
def xi18 : Rs := rwX hi18 [(16,rwC .lt 4363 0 3 0),(15,rwI 3 0),(14,rwI 4363 0),(13,rwS 93 4363 0)] []
def xi19 : Rs := rwX hi19 [(16,rwC .lt 4485 0 3 0),(15,rwI 3 0),(14,rwI 4485 0),(13,rwS 93 4485 0)] []
def xi20 : Rs := rwX hi20 [(16,rwC .lt 4586 0 3 0),(15,rwI 3 0),(14,rwI 4586 0),(13,rwS 93 4586 0)] []
def xi21 : Rs := rwX hi21 [(16,rwC .lt 4666 0 3 0),(15,rwI 3 0),(14,rwI 4666 0),(13,rwS 93 4666 0)] []
def xi22 : Rs := rwX hi22 [(16,rwC .lt 4725 0 3 0),(15,rwI 3 0),(14,rwI 4725 0),(13,rwS 93 4725 0)] []
def xi23 : Rs := rwX hi23 [(16,rwC .lt 4763 0 3 0),(15,rwI 3 0),(14,rwI 4763 0),(13,rwS 93 4763 0)] []
def xiz : Rs := rwX hi24 [(16,rwC .lt 4775 0 3 0),(15,rwI 3 0),(14,rwI 4775 0),(13,rwS 93 4775 0)] []
theorem r41_0 : round41 hi0 = some (hi1, xi0) := by kernel_rfl
theorem r41_1 : round41 hi1 = some (hi2, xi1) := by kernel_rfl
theorem r41_2 : round41 hi2 = some (hi3, xi2) := by kernel_rfl
theorem r41_3 : round41 hi3 = some (hi4, xi3) := by kernel_rfl
theorem r41_4 : round41 hi4 = some (hi5, xi4) := by kernel_rfl
theorem r41_5 : round41 hi5 = some (hi6, xi5) := by kernel_rfl
theorem r41_6 : round41 hi6 = some (hi7, xi6) := by kernel_rfl
theorem r41_7 : round41 hi7 = some (hi8, xi7) := by kernel_rfl
theorem r41_8 : round41 hi8 = some (hi9, xi8) := by kernel_rfl
theorem r41_9 : round41 hi9 = some (hi10, xi9) := by kernel_rfl
theorem r41_10 : round41 hi10 = some (hi11, xi10) := by kernel_rfl
theorem r41_11 : round41 hi11 = some (hi12, xi11) := by kernel_rfl
theorem r41_12 : round41 hi12 = some (hi13, xi12) := by kernel_rfl
theorem r41_13 : round41 hi13 = some (hi14, xi13) := by kernel_rfl
theorem r41_14 : round41 hi14 = some (hi15, xi14) := by kernel_rfl
theorem r41_15 : round41 hi15 = some (hi16, xi15) := by kernel_rfl
theorem r41_16 : round41 hi16 = some (hi17, xi16) := by kernel_rfl
theorem r41_17 : round41 hi17 = some (hi18, xi17) := by kernel_rfl
theorem r41_18 : round41 hi18 = some (hi19, xi18) := by kernel_rfl
theorem r41_19 : round41 hi19 = some (hi20, xi19) := by kernel_rfl
theorem r41_20 : round41 hi20 = some (hi21, xi20) := by kernel_rfl
theorem r41_21 : round41 hi21 = some (hi22, xi21) := by kernel_rfl
theorem r41_22 : round41 hi22 = some (hi23, xi22) := by kernel_rfl
theorem r41_23 : round41 hi23 = some (hi24, xi23) := by kernel_rfl
theorem l41 : Go.Ty.runT (envX s41 39) (gX s41 L41) (dX s41 L41 39) (sqE 1) cl2 4000 (.loop (loopOf 41)) hi24 = some xiz := by kernel_rfl
end Go.Proofs.YtjmnolhkkpaodaaGreatDoor
namespace Go.Proofs.YtjmnolhkkpaodaaGreatDoor
open Go Go.Sx Go.Ty
set_option maxRecDepth 100000
def rl41 : Rs := xi0 ++ (xi1 ++ (xi2 ++ (xi3 ++ (xi4 ++ (xi5 ++ (xi6 ++ (xi7 ++ (xi8 ++ (xi9 ++ (xi10 ++ (xi11 ++ (xi12 ++ (xi13 ++ (xi14 ++ (xi15 ++ (xi16 ++ (xi17 ++ (xi18 ++ (xi19 ++ (xi20 ++ (xi21 ++ (xi22 ++ (xi23 ++ (xiz))))))))))))))))))))))))
noncomputable def rs41 : Rs := match runH (envX s41 39) (gX s41 L41) (dX s41 L41 39) (sqE 1) cl2 4000 rl41 (codeOf 41) (st0 s41) with
 | some (r, _) => r
 | none => []
theorem run41 : runH (envX s41 39) (gX s41 L41) (dX s41 L41 39) (sqE 1) cl2 4000 rl41 (codeOf 41) (st0 s41) = some (rs41, [hi0]) := by kernel_rfl
theorem lr41 {q : Par} (hE : EnvOk (envX s41 39) (gX s41 L41) q) (hD : DrwOk (envX s41 39) q (dX s41 L41 39)) {n : Nat} {s s1 : St} {rs o : Rs} (h : round41 s = some (s1, o)) (hl : Ty.LoopOk (envX s41 39) q (loopOf 41) s1 rs n) : Ty.LoopOk (envX s41 39) q (loopOf 41) s (o ++ rs) (n + 1) := by
 unfold round41 roundX at h
 exact loop_round hE hD (sqE_ok 1) (sqL_ok 0) cl2_ok h hl
theorem loop41 {q : Par} (hE : EnvOk (envX s41 39) (gX s41 L41) q) (hD : DrwOk (envX s41 39) q (dX s41 L41 39)) : ∃ N, Ty.LoopOk (envX s41 39) q (loopOf 41) hi0 rl41 N := by
 have l24 := loop_last hE hD (sqE_ok 1) cl2_ok l41
 have l23 := lr41 hE hD r41_23 l24
 have l22 := lr41 hE hD r41_22 l23
 have l21 := lr41 hE hD r41_21 l22
 have l20 := lr41 hE hD r41_20 l21
 have l19 := lr41 hE hD r41_19 l20
 have l18 := lr41 hE hD r41_18 l19
 have l17 := lr41 hE hD r41_17 l18
 have l16 := lr41 hE hD r41_16 l17
 have l15 := lr41 hE hD r41_15 l16
 have l14 := lr41 hE hD r41_14 l15
 have l13 := lr41 hE hD r41_13 l14
 have l12 := lr41 hE hD r41_12 l13
 have l11 := lr41 hE hD r41_11 l12
 have l10 := lr41 hE hD r41_10 l11
 have l9 := lr41 hE hD r41_9 l10
 have l8 := lr41 hE hD r41_8 l9
 have l7 := lr41 hE hD r41_7 l8
 have l6 := lr41 hE hD r41_6 l7
 have l5 := lr41 hE hD r41_5 l6
 have l4 := lr41 hE hD r41_4 l5
 have l3 := lr41 hE hD r41_3 l4
 have l2 := lr41 hE hD r41_2 l3
 have l1 := lr41 hE hD r41_1 l2
 have l0 := lr41 hE hD r41_0 l1
 exact ⟨_, l0⟩
theorem o41 : OkS 41 s41 := okR (L := L41) (nt := 39) (sq := sqE 1) (fn := Tryz.f41) (h0 := hi0) (rl := rl41) (rs := rs41) ⟨o80, trivial⟩ (sqE_ok 1) Tryz.func41 (by kernel_rfl) (by kernel_rfl) (by kernel_rfl) (by kernel_rfl) (by kernel_rfl) run41 (fun _ hE hD => loop41 hE hD) (by kernel_rfl)
end Go.Proofs.YtjmnolhkkpaodaaGreatDoor
namespace Go.Proofs.YtjmnolhkkpaodaaGreatDoor
open Go Go.Sx Go.Ty
set_option maxRecDepth 100000
theorem o18 : OkS 18 s18 := okT (L := [(40, s40), (41, s41)]) ⟨o40, o41, trivial⟩ (by kernel_rfl)
theorem o8 : OkS 8 s8 := okT (L := [(15, s15), (16, s16), (17, s17), (18, s18)]) ⟨o15, o16, o17, o18, trivial⟩ (by kernel_rfl)
end Go.Proofs.YtjmnolhkkpaodaaGreatDoor
