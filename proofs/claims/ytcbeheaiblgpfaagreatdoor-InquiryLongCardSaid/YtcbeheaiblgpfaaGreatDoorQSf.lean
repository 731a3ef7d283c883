/- The law InquiryLong: part Sf. -/
import Derived.Test.YtcbeheaiblgpfaaGreatDoorRows
import Derived.JoinedOf
import Derived.Test.YtcbeheaiblgpfaaGreatDoorQSd
set_option linter.unusedVariables false
set_option linter.unusedSimpArgs false
noncomputable section
namespace Go.Proofs.YtcbeheaiblgpfaaGreatDoor.Ask
open Go
set_option maxRecDepth 100000
def plc (g : Nat) : Option String := (Tryz.prog.funcs[g]?).bind fun fn => if fn.ours || fn.body.isNone || fn.name == "runtime.NumGoroutine" then some fn.name else none
def vars (g : Nat) : List Nat := ((Tryz.prog.funcs[g]?).bind (·.body)).elim [] Code.globalsNamed
def reads (g : Nat) : Option String := (Tryz.prog.funcs[g]?).bind fun fn => if fn.body.isNone then entryReads.lookup fn.name else none
def p0 : List Nat := [3, 4, 9, 36, 76, 140, 222, 223, 390, 141, 224, 142, 225, 391, 552, 392, 393, 394, 553, 38, 39, 79, 145, 41, 82, 70, 137, 153, 238, 28, 31, 40, 80, 146, 147, 231, 148, 232, 398, 77, 143, 226, 395, 554, 555, 144, 227, 396, 228, 229, 71, 138, 221, 386, 387, 310, 548, 549, 388, 389, 550, 551, 670, 671, 397, 230, 30, 72, 139, 233, 234, 235, 236, 81, 149, 25, 69, 150, 151, 237, 152, 42, 43, 49, 83, 84, 78, 37, 34, 75, 44, 85, 154, 86, 155, 156, 239, 157, 11, 10, 45, 87, 158, 240, 116, 241, 399, 556, 163, 162, 246, 161, 242, 243, 88, 159, 244, 245, 400, 557, 558, 672, 709, 160]
theorem plc0 : p0.filterMap plc = ["internal/bytealg.CountString", "internal/bytealg.IndexByteString", "internal/bytealg.IndexString", "internal/abi.NoEscape", "internal/bytealg.MakeNoZero"] := by kernel_rfl
theorem vars0 : p0.flatMap vars = [4, 5, 0, 0, 0, 1, 2, 3, 6, 7] := by kernel_rfl
theorem kaJ : p0.filterMap reads = ["internal/bytealg.MaxLen"] := by kernel_rfl
def p1 : List Nat := [46, 89, 90, 91, 92, 93, 94, 95, 96, 97, 98, 99, 47, 100, 164, 247, 248, 401, 402, 559, 561, 560, 403, 311, 465, 466, 621, 467, 468, 562, 249, 120, 196, 313, 312, 314, 315, 165, 250, 251, 404, 405, 316, 252, 122, 197, 317, 318, 469, 319, 320, 321, 166, 253, 254, 406, 407, 408, 563, 567, 564, 565, 411, 566, 568, 569, 570, 571, 572, 573, 574, 575, 576, 577, 578, 410, 409, 412, 322, 470, 472, 622, 695, 623, 696, 624, 625, 106, 177, 471, 544, 255, 124, 198, 324, 323, 473, 271, 270, 427, 428, 325, 474, 475, 476, 477, 326, 429, 478, 413, 167, 256, 257, 414, 579, 580, 415, 328, 288, 186, 286, 446, 287, 289]
theorem plc1 : p1.filterMap plc = [] := by kernel_rfl
theorem vars1 : p1.flatMap vars = [] := by kernel_rfl
theorem jaJ : p1.filterMap reads = [] := by kernel_rfl
def p2 : List Nat := [581, 258, 126, 199, 327, 330, 329, 479, 626, 331, 168, 259, 260, 417, 418, 419, 201, 295, 337, 481, 338, 482, 627, 291, 187, 290, 584, 585, 416, 582, 583, 261, 128, 200, 332, 334, 333, 480, 335, 336, 169, 262, 263, 420, 421, 340, 264, 130, 202, 339, 483, 485, 484, 628, 486, 487, 341, 488, 629, 630, 170, 265, 101, 171, 172, 173, 174, 267, 422, 423, 266, 203, 342, 489, 490, 491, 631, 632, 633, 59, 12, 48, 102, 175, 29, 13, 50, 55, 63, 119, 121, 123, 125, 127, 129, 131, 132, 103, 176, 268, 424, 435, 598, 678, 712, 679, 680, 195, 309, 713, 724, 725, 736, 726, 461, 462, 727, 737, 738, 742, 728, 729, 730, 731]
theorem plc2 : p2.filterMap plc = [] := by kernel_rfl
theorem vars2 : p2.flatMap vars = [] := by kernel_rfl
theorem iaJ : p2.filterMap reads = [] := by kernel_rfl
def p3 : List Nat := [586, 599, 681, 587, 279, 436, 355, 501, 647, 503, 500, 510, 658, 506, 650, 651, 652, 504, 649, 648, 345, 178, 117, 194, 300, 306, 301, 460, 302, 303, 463, 464, 620, 304, 305, 307, 308, 272, 430, 593, 676, 675, 711, 431, 594, 595, 425, 492, 494, 496, 645, 643, 699, 493, 639, 638, 640, 641, 642, 634, 697, 635, 698, 637, 636, 269, 426, 588, 589, 590, 591, 592, 674, 673, 516, 659, 702, 722, 721, 527, 660, 703, 710, 517, 661, 704, 519, 528, 662, 530, 520, 663, 521, 664, 705, 723, 529, 14, 51, 105, 104, 52, 107, 15, 53, 108, 179, 274, 273, 432, 276, 434, 597, 433, 596, 677, 277, 275, 180, 278, 181, 280, 437, 600]
theorem plc3 : p3.filterMap plc = [] := by kernel_rfl
theorem vars3 : p3.flatMap vars = [] := by kernel_rfl
theorem haJ : p3.filterMap reads = [] := by kernel_rfl
def p4 : List Nat := [601, 682, 714, 715, 438, 602, 683, 716, 732, 739, 740, 743, 744, 684, 604, 686, 118, 603, 685, 189, 605, 606, 687, 688, 717, 733, 734, 718, 439, 109, 182, 281, 440, 442, 441, 607, 282, 443, 537, 534, 667, 707, 708, 542, 610, 690, 538, 609, 689, 283, 444, 608, 183, 54, 111, 110, 184, 284, 285, 445, 611, 185, 112, 188, 16, 56, 113, 190, 292, 293, 447, 612, 691, 692, 294, 448, 449, 613, 450, 614, 615, 451, 452, 616, 298, 459, 458, 619, 694, 114, 191, 296, 453, 455, 454, 617, 693, 719, 720, 735, 741, 193, 299, 192, 297, 456, 618, 457, 17, 58, 57, 115, 60, 61, 62, 18, 64, 65, 133, 134, 204, 343, 344, 205]
theorem plc4 : p4.filterMap plc = [] := by kernel_rfl
theorem vars4 : p4.flatMap vars = [] := by kernel_rfl
theorem gaJ : p4.filterMap reads = [] := by kernel_rfl
def p5 : List Nat := [347, 346, 348, 349, 351, 495, 644, 497, 350, 352, 353, 498, 646, 499, 206, 354, 502, 356, 505, 508, 656, 701, 657, 509, 507, 653, 700, 654, 655, 357, 511, 358, 512, 513, 359, 207, 360, 362, 361, 363, 514, 364, 515, 365, 208, 366, 368, 27, 367, 518, 522, 369, 523, 524, 665, 706, 209, 370, 526, 525, 666, 371, 531, 532, 210, 372, 533, 535, 373, 536, 211, 374, 375, 539, 212, 376, 540, 377, 541, 668, 378, 213, 379, 214, 380, 543, 215, 381, 216, 382, 545, 383, 217, 384, 546, 669, 218, 385, 547, 219, 135, 7, 35, 5, 24, 68, 26, 66, 136, 220, 19, 20, 21, 22, 23, 67, 6, 32, 73, 33, 74, 8]
theorem plc5 : p5.filterMap plc = [] := by kernel_rfl
theorem vars5 : p5.flatMap vars = [] := by kernel_rfl
theorem faJ : p5.filterMap reads = [] := by kernel_rfl
theorem parts : reached = p0 ++ p1 ++ p2 ++ p3 ++ p4 ++ p5 := rfl
theorem maj : Tryz.prog.inPlace 3 = ["internal/bytealg.CountString", "internal/bytealg.IndexByteString", "internal/bytealg.IndexString", "internal/abi.NoEscape", "internal/bytealg.MakeNoZero"] := by
 unfold Program.inPlace
 rw [lN, parts]
 show (p0 ++ p1 ++ p2 ++ p3 ++ p4 ++ p5).filterMap plc = _
 simp only [List.filterMap_append, plc0, plc1, plc2, plc3, plc4, plc5]
 rfl
theorem oL : Tryz.prog.unfollowed 3 = true := by
 unfold Program.unfollowed
 rw [lN]
 kernel_rfl
theorem xae : Tryz.prog.recurses 3 = true := by
 unfold Program.recurses
 rw [oL]
 rfl
theorem jab : Tryz.prog.varsNamed 3 = Rows.inquiryLongRow.named := by
 unfold Program.varsNamed
 rw [lN, parts]
 show (((p0 ++ p1 ++ p2 ++ p3 ++ p4 ++ p5).flatMap vars).eraseDups.filterMap (fun g => (Tryz.prog.globals[g]?).map (·.name)) ++ (p0 ++ p1 ++ p2 ++ p3 ++ p4 ++ p5).filterMap reads).eraseDups = _
 simp only [List.flatMap_append, List.filterMap_append, vars0, vars1, vars2, vars3, vars4, vars5, kaJ, jaJ, iaJ, haJ, gaJ, faJ]
 kernel_rfl
end Go.Proofs.YtcbeheaiblgpfaaGreatDoor.Ask
end
